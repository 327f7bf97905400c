/-
  Walks, printed by a program (gen.py): TrM.
-/
import Derived.Test.YtocmchlhbniloaaTrK
set_option linter.unusedSimpArgs false
set_option linter.unusedVariables false
namespace Go.Proofs.Ytocmchlhbniloaa
namespace B
open Go.RowKit
open Srt
set_option maxRecDepth 100000 in
theorem some1_c (t : Tr) (p : Addr) (v : Value) (ks : List Int) (w : World) (hc : w.cell? p = some v) (hS : SlT IntE w v ks) : Calls Try.prog 61 #[(.agg #[(.int .i64 (t.k)), (.string (t.ch)), (.bool (t.ng)), t.rv.v, (.int .i64 (t.mn)), (.int .i64 (t.mx)), (.bool (t.lz)), t.kv.v]), (.pointer (some p))] w (fun e w' => e = .returned (.bool (ks.any fun y => decide (t.k = y))) ∧ Ext none' w w') := by
 refine enter (n := 8) Try.func61 rfl rfl (Nat.le_of_ble_eq_true rfl) ?_
 intro a0 τ0 ha st0
 have e0 : get a0 0 = (.agg #[(.int .i64 (t.k)), (.string (t.ch)), (.bool (t.ng)), t.rv.v, (.int .i64 (t.mn)), (.int .i64 (t.mx)), (.bool (t.lz)), t.kv.v]) := ha 0 _ rfl
 have e1 : get a0 1 = (.pointer (some p)) := ha 1 _ rfl
 clear ha
 refine wp_seq ?_
 refine region_St (bf := [0, 0]) (sp := [box _ _ 0 2 [(.int .i64 (t.k)), (.string (t.ch)), (.bool (t.ng)), t.rv.v, (.int .i64 (t.mn)), (.int .i64 (t.mx)), (.bool (t.lz)), t.kv.v], det _ 3 _]) [] mixed st0 (by kernel_rfl) trivial
  ⟨Ob.box (v := (.agg #[(.int .i64 (t.k)), (.string (t.ch)), (.bool (t.ng)), t.rv.v, (.int .i64 (t.mn)), (.int .i64 (t.mx)), (.bool (t.lz)), t.kv.v])) rfl rfl rfl rfl rfl (fun _ _ _ _ c => (c.p e0)),
  Ob.d fun c => r_assign rfl rfl, trivial⟩ ?_
 intro a1 w1 τ1 st1 f1
 obtain ⟨b1x2, e2⟩ : ∃ b, get a1 2 = b := ⟨_, rfl⟩
 obtain ⟨e1, -⟩ := f1.ks [(1, _)] ⟨e1, trivial⟩
 have e3 : get a1 3 = (.bool (false)) := f1.v 1 rfl
 have r0 : boxR 25 [(.int .i64 (t.k)), (.string (t.ch)), (.bool (t.ng)), t.rv.v, (.int .i64 (t.mn)), (.int .i64 (t.mx)), (.bool (t.lz)), t.kv.v] (τ1 0) b1x2 w1 := f1.rb 0 e2 rfl
 clear f1
 show Code.wp _ _ _ a1 w1
 refine wp_seq ?_
 refine region_St (bf := [0, 0, 2, 7, 15]) (sp := [det _ 4 _, det _ 5 _, det _ 6 _, det _ 7 _, det _ 3 _]) [ib r0] mixed st1 (by kernel_rfl) ⟨r0, trivial⟩
  ⟨Ob.d fun c => r_load1 rfl Try.isAgg70 (c.p e1) ((st1.ext.trans c.J.ext).cellAt hc),
  Ob.d fun c => r_fieldAddr rfl Try.underlying25 rfl rfl Try.sizeOf3 ((c.p e2).trans r0.ptr),
  Ob.d fun c => r_load1 rfl Try.isAgg3 (c.n 1 rfl) ((c.ib 0 rfl).cell (j := 0) rfl),
  Ob.c fun c => ⟨_, _, (e_call2 rfl rfl Try.call62 (c.n 0 rfl) (c.n 2 rfl)), hasInt_c v ks t.k _ (hS.at (st1.ext.trans c.J.ext))⟩,
  Ob.d fun c => r_assign rfl (c.n 3 rfl), trivial⟩ ?_
 intro a2 w2 τ2 st2 f2
 have e3 : get a2 3 = (.bool ((ks).any fun y => decide (t.k = y))) := f2.v 4 rfl
 clear f2
 show Code.wp _ _ _ a2 w2
 refine wp_ret ?_
 repeat (first | with_reducible refine then_ret ?_ | with_reducible refine block_ret ?_)
 refine ret1 (fn := Try.f61) rfl st2.defers e3 ?_
 exact ⟨rfl, st2.ext0⟩

set_option maxRecDepth 100000 in
theorem ixFn_c (v cap : Value) (ts : List Tr) (q : Tr → Bool) (w : World) (hf : ∀ t ∈ ts, ∀ w2 : World, Ext none' w w2 → Calls Try.prog 61 #[t.v, cap] w2 (fun e w3 => e = .returned (.bool (q t)) ∧ Ext none' w2 w3)) (hS : SlT TrE w v ts) : Calls Try.prog 66 #[v, (.func (.func 61) #[] #[cap])] w (fun e w' => e = .returned (.int .i64 (ixF q ts)) ∧ Ext none' w w') := by
 refine enter (n := 19) Try.func66 rfl rfl (Nat.le_of_ble_eq_true rfl) ?_
 intro a0 τ0 ha st0
 have e0 : get a0 0 = v := ha 0 _ rfl
 have e1 : get a0 1 = (.func (.func 61) #[] #[cap]) := ha 1 _ rfl
 clear ha
 have hle := hS.le
 refine wp_seq ?_
 refine region_St (bf := [0]) (sp := [det _ 4 _]) [] mixed st0 (by kernel_rfl) trivial
  ⟨Ob.d fun c => r_assign rfl rfl, trivial⟩ ?_
 intro a1 w1 τ1 st1 f1
 obtain ⟨e0, e1, -⟩ := f1.ks [(0, _), (1, _)] ⟨e0, e1, trivial⟩
 have e4 : get a1 4 = (.int .i64 (0)) := f1.v 0 rfl
 clear f1
 show Code.wp _ _ _ a1 w1
 refine wp_seq ?_
 refine wp_seq ?_
 refine region_St (bf := [0, 1, 0]) (sp := [det _ 6 _, det _ 7 _, det _ 8 _]) [] mixed st1 (by kernel_rfl) trivial
  ⟨Ob.d fun c => r_move rfl (c.p e0),
  Ob.d fun c => r_len rfl Try.underlying23 (c.n 0 rfl) hS.sl,
  Ob.d fun c => r_move rfl rfl, trivial⟩ ?_
 intro a2 w2 τ2 st2 f2
 obtain ⟨e0, e1, e4, -⟩ := f2.ks [(0, _), (1, _), (4, _)] ⟨e0, e1, e4, trivial⟩
 have e7 : get a2 7 = (.int .i64 ((ts.length : Int))) := f2.v 1 rfl
 have e8 : get a2 8 = (.int .i64 (0)) := f2.v 2 rfl
 clear f2
 show Code.wp _ _ _ a2 w2
 refine wp_block ?_
 refine wp_loop (fun a_ w_ => ∃ (k : Nat) (τ : Nat → Foot), (k ≤ ts.length) ∧
      (∀ y ∈ ts.take k, q y = false) ∧
      St (Nw w) w 19 a_ w_ τ ∧
      get a_ 8 = (.int .i64 ((k : Int))) ∧
      get a_ 0 = v ∧
      get a_ 1 = (.func (.func 61) #[] #[cap]) ∧
      get a_ 7 = (.int .i64 ((ts.length : Int)))) (fun a_ _ => ts.length - (intOf (get a_ 8)).toNat) ?_ ?_
 · refine ⟨0, τ2, ?_, ?_, st2, (e8.trans (int_eq (by omega))), e0, e1, e7⟩
   · omega
   · simp
 intro a3 w3 hI
 obtain ⟨k, τ3, q0, q1, st3, e8, e0, e1, e7⟩ := hI
 have m8 := e8
 refine wp_seq ?_
 refine region_St (bf := [0]) (sp := [det _ 9 _]) [] mixed st3 (by kernel_rfl) trivial
  ⟨Ob.d fun c => r_lss rfl (c.p e8) (c.p e7), trivial⟩ ?_
 intro a4 w4 τ4 st4 f4
 obtain ⟨e0, e1, e7, e8, -⟩ := f4.ks [(0, _), (1, _), (7, _), (8, _)] ⟨e0, e1, e7, e8, trivial⟩
 have e9 : get a4 9 = (.bool (decide ((k : Int) < (ts.length : Int)))) := f4.v 0 rfl
 clear f4
 show Code.wp _ _ _ a4 w4
 refine wp_seq ?_
 refine wp_cond_split (t := decide ((k : Int) < (ts.length : Int))) e9 (fun hc1 => ?_) (fun hc1 => ?_)
 · try simp only [decide_eq_true_eq] at hc1
   refine wp_skip ?_
   show Code.wp _ _ _ a4 w4
   refine wp_seq ?_
   refine wp_block ?_
   refine wp_seq ?_
   refine region_St (bf := [0, 1]) (sp := [det _ 10 _, det _ 5 _]) [] mixed st4 (by kernel_rfl) trivial
    ⟨Ob.d fun c => r_move rfl (c.p e8),
    Ob.d fun c => r_assign rfl (c.n 0 rfl), trivial⟩ ?_
   intro a5 w5 τ5 st5 f5
   obtain ⟨e0, e1, e7, e8, e9, -⟩ := f5.ks [(0, _), (1, _), (7, _), (8, _), (9, _)] ⟨e0, e1, e7, e8, e9, trivial⟩
   have e5 : get a5 5 = (.int .i64 ((k : Int))) := f5.v 1 rfl
   clear f5
   show Code.wp _ _ _ a5 w5
   refine wp_seq ?_
   refine region_St (bf := [0, 0, 0, 6, 14, 31]) (sp := [det _ 11 _, det _ 12 _, det _ 13 _, det _ 14 _, det _ 15 _, det _ 16 _]) [] mixed st5 (by kernel_rfl) trivial
    ⟨Ob.d fun c => r_move rfl (c.p e1),
    Ob.d fun c => r_move rfl (c.p e0),
    Ob.d fun c => r_move rfl (c.p e5),
    Ob.d fun c => r_indexAddr rfl Try.underlying23 Try.sizeOf25 (c.n 1 rfl) hS.sl (c.n 2 rfl) (by omega) (by omega),
    Ob.d fun c => r_loadN (vs := [(.int .i64 ((nth ts ((k : Int))).k)), (.string ((nth ts ((k : Int))).ch)), (.bool ((nth ts ((k : Int))).ng)), (nth ts ((k : Int))).rv.v, (.int .i64 ((nth ts ((k : Int))).mn)), (.int .i64 ((nth ts ((k : Int))).mx)), (.bool ((nth ts ((k : Int))).lz)), (nth ts ((k : Int))).kv.v]) rfl Try.isAgg25 Try.sizeOf25 (c.n 3 rfl) rfl (fun _ _ hj => ((hS.at (st5.ext.trans c.J.ext))).elem (nth_some (i := (k : Int)) (by omega) (by omega)) hj),
    Ob.c fun c => ⟨_, _, (e_cap1_1 rfl (c.n 0 rfl) Try.call61 (c.n 4 rfl)), hf _ (nth_memI (by omega) (by omega)) _ (st5.ext.trans c.J.ext).fresh⟩, trivial⟩ ?_
   intro a6 w6 τ6 st6 f6
   obtain ⟨e0, e1, e5, e7, e8, e9, -⟩ := f6.ks [(0, _), (1, _), (5, _), (7, _), (8, _), (9, _)] ⟨e0, e1, e5, e7, e8, e9, trivial⟩
   have e16 : get a6 16 = (.bool (q (nth ts ((k : Int))))) := f6.v 5 rfl
   clear f6
   show Code.wp _ _ _ a6 w6
   refine wp_cond_split (t := q (nth ts ((k : Int)))) e16 (fun hc2 => ?_) (fun hc2 => ?_)
   · have hd2 := hc2; skip
     refine wp_seq ?_
     refine region_St (bf := [0, 1]) (sp := [det _ 17 _, det _ 4 _]) [] mixed st6 (by kernel_rfl) trivial
      ⟨Ob.d fun c => r_move rfl (c.p e5),
      Ob.d fun c => r_assign rfl (c.n 0 rfl), trivial⟩ ?_
     intro a7 w7 τ7 st7 f7
     obtain ⟨e0, e1, e5, e7, e8, e9, e16, -⟩ := f7.ks [(0, _), (1, _), (5, _), (7, _), (8, _), (9, _), (16, _)] ⟨e0, e1, e5, e7, e8, e9, e16, trivial⟩
     have e4 : get a7 4 = (.int .i64 ((k : Int))) := f7.v 1 rfl
     clear f7
     show Code.wp _ _ _ a7 w7
     refine wp_ret ?_
     repeat (first | with_reducible refine then_ret ?_ | with_reducible refine block_ret ?_)
     refine ret1 (fn := Try.f66) rfl st7.defers e4 ?_
     exact ⟨congrArg _ (int_eq (by first | exact (ix_hit (f := q) (by omega) q1 (by assumption)).symm | exact (ix_miss (f := q) (k := k) (by omega) q1).symm)), st7.ext0⟩
   have hd2 := hc2; skip
   refine wp_skip ?_
   show _
   show Code.wp _ _ _ a6 w6
   refine region_St (bf := [0, 1]) (sp := [det _ 18 _, det _ 8 _]) [] mixed st6 (by kernel_rfl) trivial
    ⟨Ob.d fun c => r_add rfl (c.p e8) rfl (by omega),
    Ob.d fun c => r_move rfl (c.n 0 rfl), trivial⟩ ?_
   intro a8 w8 τ8 st8 f8
   obtain ⟨e0, e1, e5, e7, e9, e16, -⟩ := f8.ks [(0, _), (1, _), (5, _), (7, _), (9, _), (16, _)] ⟨e0, e1, e5, e7, e9, e16, trivial⟩
   have e8 : get a8 8 = (.int .i64 ((k : Int) + 1)) := f8.v 1 rfl
   clear f8
   refine ⟨⟨k + 1, τ8, ?_, ?_, st8, (e8.trans (int_eq (by omega))), e0, e1, e7⟩, ?_⟩
   · omega
   · exact ix_step (f := q) (by omega) q1 (by assumption)
   · simp only [m8, e8, intOf]; omega
 try simp only [decide_eq_false_iff_not, Int.not_lt] at hc1
 refine wp_exit ?_
 repeat (with_reducible refine then_exit ?_)
 refine exit_here ?_
 show Code.wp _ _ _ a4 w4
 refine wp_seq ?_
 refine region_St (bf := [0]) (sp := [det _ 4 _]) [] mixed st4 (by kernel_rfl) trivial
  ⟨Ob.d fun c => r_assign rfl rfl, trivial⟩ ?_
 intro a9 w9 τ9 st9 f9
 have e4 : get a9 4 = (.int .i64 ((-1))) := f9.v 0 rfl
 clear f9
 show Code.wp _ _ _ a9 w9
 refine wp_ret ?_
 repeat (first | with_reducible refine then_ret ?_ | with_reducible refine block_ret ?_)
 refine ret1 (fn := Try.f66) rfl st9.defers e4 ?_
 exact ⟨congrArg _ (int_eq (by first | exact (ix_hit (f := q) (by omega) q1 (by assumption)).symm | exact (ix_miss (f := q) (k := k) (by omega) q1).symm)), st9.ext0⟩

set_option maxRecDepth 100000 in
theorem hasFn_c (v cap : Value) (ts : List Tr) (q : Tr → Bool) (w : World) (hf : ∀ t ∈ ts, ∀ w2 : World, Ext none' w w2 → Calls Try.prog 61 #[t.v, cap] w2 (fun e w3 => e = .returned (.bool (q t)) ∧ Ext none' w2 w3)) (hS : SlT TrE w v ts) : Calls Try.prog 60 #[v, (.func (.func 61) #[] #[cap])] w (fun e w' => e = .returned (.bool (ts.any q)) ∧ Ext none' w w') := by
 refine enter (n := 9) Try.func60 rfl rfl (Nat.le_of_ble_eq_true rfl) ?_
 intro a0 τ0 ha st0
 have e0 : get a0 0 = v := ha 0 _ rfl
 have e1 : get a0 1 = (.func (.func 61) #[] #[cap]) := ha 1 _ rfl
 clear ha
 have hle := hS.le
 refine wp_seq ?_
 refine region_St (bf := [0]) (sp := [det _ 4 _]) [] mixed st0 (by kernel_rfl) trivial
  ⟨Ob.d fun c => r_assign rfl rfl, trivial⟩ ?_
 intro a1 w1 τ1 st1 f1
 obtain ⟨e0, e1, -⟩ := f1.ks [(0, _), (1, _)] ⟨e0, e1, trivial⟩
 have e4 : get a1 4 = (.bool (false)) := f1.v 0 rfl
 clear f1
 show Code.wp _ _ _ a1 w1
 refine wp_seq ?_
 refine region_St (bf := [0, 0, 3, 7, 15]) (sp := [det _ 5 _, det _ 6 _, det _ 7 _, det _ 8 _, det _ 4 _]) [] mixed st1 (by kernel_rfl) trivial
  ⟨Ob.d fun c => r_move rfl (c.p e0),
  Ob.d fun c => r_move rfl (c.p e1),
  Ob.c fun c => ⟨_, _, (e_call2 rfl rfl Try.call66 (c.n 0 rfl) (c.n 1 rfl)), ixFn_c v cap ts q _ (fun t_ h_ w2_ he_ => hf t_ h_ w2_ ((st1.ext.trans c.J.ext).fresh.trans he_)) (hS.at (st1.ext.trans c.J.ext))⟩,
  Ob.d fun c => r_geq rfl (c.n 2 rfl) rfl,
  Ob.d fun c => r_assign rfl (c.n 3 rfl), trivial⟩ ?_
 intro a2 w2 τ2 st2 f2
 have e4 : get a2 4 = (.bool (decide (0 ≤ ixF q ts))) := f2.v 4 rfl
 clear f2
 show Code.wp _ _ _ a2 w2
 refine wp_ret ?_
 repeat (first | with_reducible refine then_ret ?_ | with_reducible refine block_ret ?_)
 refine ret1 (fn := Try.f60) rfl st2.defers e4 ?_
 exact ⟨congrArg _ (congrArg _ (ix_any _ _)), st2.ext0⟩

set_option maxRecDepth 100000 in
theorem some_c (v : Value) (u : Sv) (ts : List Tr) (ks : List Int) (w : World) (hS : SlT TrE w v ts) (hU : SlT IntE w u.v ks) : Calls Try.prog 54 #[v, u.v] w (fun e w' => e = .returned (.bool (ts.any fun x => ks.any fun y => decide (x.k = y))) ∧ Ext none' w w') := by
 refine enter (n := 8) Try.func54 rfl rfl (Nat.le_of_ble_eq_true rfl) ?_
 intro a0 τ0 ha st0
 have e0 : get a0 0 = v := ha 0 _ rfl
 have e1 : get a0 1 = u.v := ha 1 _ rfl
 clear ha
 have hle := hS.le
 refine wp_seq ?_
 refine region_St (bf := [0, 0]) (sp := [box _ _ 0 3 [u.v], det _ 4 _]) [] mixed st0 (by kernel_rfl) trivial
  ⟨Ob.box (v := u.v) rfl rfl rfl rfl rfl (fun _ _ _ _ c => (c.p e1)),
  Ob.d fun c => r_assign rfl rfl, trivial⟩ ?_
 intro a1 w1 τ1 st1 f1
 obtain ⟨b1x3, e3⟩ : ∃ b, get a1 3 = b := ⟨_, rfl⟩
 obtain ⟨e0, -⟩ := f1.ks [(0, _)] ⟨e0, trivial⟩
 have e4 : get a1 4 = (.bool (false)) := f1.v 1 rfl
 have r0 : boxR 70 [u.v] (τ1 0) b1x3 w1 := f1.rb 0 e3 rfl
 clear f1
 show Code.wp _ _ _ a1 w1
 refine wp_seq ?_
 refine region_St (bf := [0, 0, 3, 7]) (sp := [det _ 5 _, det _ 6 _, det _ 7 _, det _ 4 _]) [ib r0] mixed st1 (by kernel_rfl) ⟨r0, trivial⟩
  ⟨Ob.d fun c => r_move rfl (c.p e0),
  Ob.d fun c => r_makeFunc1 rfl (c.p e3),
  Ob.c fun c => ⟨_, _, (e_call2 rfl rfl Try.call60 (c.n 0 rfl) (c.n 1 rfl)), hasFn_c v b1x3 ts (fun x_ => (ks).any fun y_ => decide (x_.k = y_)) _ (fun t_ _ w2_ he_ => by rw [(c.ib 0 rfl).ptr]; exact some1_c t_ _ u.v ks w2_ (he_.cell_some ((c.ib 0 rfl).cell (j := 0) rfl) (fun h => h)) ((hU.at (st1.ext.trans c.J.ext)).keep he_ (fun _ h => h))) (hS.at (st1.ext.trans c.J.ext))⟩,
  Ob.d fun c => r_assign rfl (c.n 2 rfl), trivial⟩ ?_
 intro a2 w2 τ2 st2 f2
 have e4 : get a2 4 = (.bool ((ts).any fun x_ => (ks).any fun y_ => decide (x_.k = y_))) := f2.v 3 rfl
 clear f2
 show Code.wp _ _ _ a2 w2
 refine wp_ret ?_
 repeat (first | with_reducible refine then_ret ?_ | with_reducible refine block_ret ?_)
 refine ret1 (fn := Try.f54) rfl st2.defers e4 ?_
 exact ⟨rfl, st2.ext0⟩
end B
end Go.Proofs.Ytocmchlhbniloaa
