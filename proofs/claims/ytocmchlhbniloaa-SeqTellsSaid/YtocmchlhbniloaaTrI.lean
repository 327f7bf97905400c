/-
  Walks, printed by a program (gen.py): TrI.
-/
import Derived.Test.YtocmchlhbniloaaTrH
import Derived.Test.YtocmchlhbniloaaTreeZ
set_option linter.unusedSimpArgs false
set_option linter.unusedVariables false
namespace Go.Proofs.Ytocmchlhbniloaa
namespace B
open Go.RowKit
open Srt
set_option maxRecDepth 100000 in
theorem cloneRows_c (v : Value) (xs : List (ByteArray × ByteArray)) (w : World) (hS : SlT RowE w v xs) (hb : xs.length ≤ 1000000000) : Calls Try.prog 45 #[v] w (fun e w' => ∃ v', e = .returned v' ∧ Ext none' w w' ∧ NewT RowE 43 w w' v' (xs)) := by
 refine enter (n := 8) Try.func45 rfl rfl (Nat.le_of_ble_eq_true rfl) ?_
 intro a0 τ0 ha st0
 have e0 : get a0 0 = v := ha 0 _ rfl
 clear ha
 have hle := hS.le
 refine wp_seq ?_
 refine region_St (bf := [0]) (sp := [det _ 2 _]) [] mixed st0 (by kernel_rfl) trivial
  ⟨Ob.d fun c => r_assign rfl rfl, trivial⟩ ?_
 intro a1 w1 τ1 st1 f1
 obtain ⟨e0, -⟩ := f1.ks [(0, _)] ⟨e0, trivial⟩
 have e2 : get a1 2 = (.slice none 0 0) := f1.v 0 rfl
 clear f1
 show Code.wp _ _ _ a1 w1
 refine wp_seq ?_
 refine wp_seq ?_
 refine region_St (bf := [0, 1]) (sp := [det _ 3 _, det _ 4 _]) [] mixed st1 (by kernel_rfl) trivial
  ⟨Ob.d fun c => r_move rfl (c.p e0),
  Ob.d fun c => r_isNil rfl Try.underlying22 (c.n 0 rfl) hS.sl, trivial⟩ ?_
 intro a2 w2 τ2 st2 f2
 obtain ⟨e0, e2, -⟩ := f2.ks [(0, _), (2, _)] ⟨e0, e2, trivial⟩
 have e4 : get a2 4 = (.bool (isNil v)) := f2.v 1 rfl
 clear f2
 show Code.wp _ _ _ a2 w2
 refine wp_cond_split (t := isNil v) e4 (fun hc1 => ?_) (fun hc1 => ?_)
 · skip
   refine wp_seq ?_
   refine region_St (bf := [0]) (sp := [det _ 2 _]) [] mixed st2 (by kernel_rfl) trivial
    ⟨Ob.d fun c => r_assign rfl rfl, trivial⟩ ?_
   intro a3 w3 τ3 st3 f3
   obtain ⟨e0, -⟩ := f3.ks [(0, _)] ⟨e0, trivial⟩
   have e2 : get a3 2 = (.slice none 0 0) := f3.v 0 rfl
   clear f3
   show Code.wp _ _ _ a3 w3
   refine wp_ret ?_
   repeat (first | with_reducible refine then_ret ?_ | with_reducible refine block_ret ?_)
   refine ret1 (fn := Try.f45) rfl st3.defers e2 ?_
   have hnil : xs = [] := hS.isNil (by assumption)
   subst hnil
   exact ⟨_, rfl, st3.ext0, OwnT.nil _ _ _, fun g_ h_ => by simp [Value.ownBlock] at h_⟩
 skip
 refine wp_skip ?_
 show Code.wp _ _ _ a2 w2
 refine wp_seq ?_
 refine region_St (bf := [0, 0, 3, 7]) (sp := [own RowE 43 _ 0 5 ([]), det _ 6 _, own _ _ _ 0 7 _, own _ _ _ 0 2 _]) [] mixed st2 (by kernel_rfl) trivial
  ⟨Ob.buildEmpty rfl rfl rfl rfl Try.underlying22 Try.sizeOf43,
  Ob.d fun c => r_move rfl (c.p e0),
  Ob.append (t0 := 5) rfl rfl rfl rfl Try.underlying22 (i := Try.t43) rfl rfl rfl rfl (by simp only [maxLen]; (try simp); omega) (by show _ * 32 ≤ _; (try simp); omega) (fun _ _ _ _ c => ⟨c.ro 0 rfl, rfl, ⟨_, (c.n 1 rfl), (hS.at (st2.ext.trans c.J.ext))⟩⟩),
  Ob.moveT (t0 := 7) rfl rfl rfl rfl rfl (.inr rfl) (fun _ _ _ _ c => ⟨c.ro 2 rfl, rfl⟩), trivial⟩ ?_
 intro a4 w4 τ4 st4 f4
 obtain ⟨b4x2, e2⟩ : ∃ b, get a4 2 = b := ⟨_, rfl⟩
 have r0 : ownR RowE 43 (([]) ++ xs) (τ4 0) b4x2 w4 := f4.ro 3 e2 rfl
 clear f4
 show Code.wp _ _ _ a4 w4
 refine wp_ret ?_
 repeat (first | with_reducible refine then_ret ?_ | with_reducible refine block_ret ?_)
 refine ret1 (fn := Try.f45) rfl st4.defers e2 ?_
 rw [List.nil_append] at r0
 exact ⟨_, rfl, st4.ext0, r0.1, fun g_ h_ => (st4.bnd _ g_ (r0.2 g_ h_)).1⟩

set_option maxRecDepth 100000 in
theorem clone_step (t : Tr) (ih : ∀ k ∈ t.kids, ∀ (w : World), TrS w k → wtF k ≤ 1000000 → Calls Try.prog 37 #[k.v] w (fun e w' => ∃ t' : Tr, e = .returned t'.v ∧ Ext none' w w' ∧ TrT (Gn none' w) w' t' ∧ er t' = er k)) (w : World) (hT : TrS w t) (hP : wtF t ≤ 1000000) : Calls Try.prog 37 #[t.v] w (fun e w' => ∃ t' : Tr, e = .returned t'.v ∧ Ext none' w w' ∧ TrT (Gn none' w) w' t' ∧ er t' = er t) := by
 refine enter (n := 26) Try.func37 rfl rfl (Nat.le_of_ble_eq_true rfl) ?_
 intro a0 τ0 ha st0
 have e0 : get a0 0 = (.agg #[(.int .i64 (t.k)), (.string (t.ch)), (.bool (t.ng)), t.rv.v, (.int .i64 (t.mn)), (.int .i64 (t.mx)), (.bool (t.lz)), t.kv.v]) := ha 0 _ rfl
 clear ha
 have hle := hT.kids.le
 have hwt := wtF_bound t
 have hpk : ∀ k : Nat, k < t.kids.length → wtF (nth t.kids (k : Int)) ≤ 1000000 := fun k h_ => by have h1_ := wtF_kid (nth_memI (xs := t.kids) (i := (k : Int)) (by omega) (by omega)); omega
 refine wp_seq ?_
 refine region_St (bf := [0, 0]) (sp := [box _ _ 0 1 [(.int .i64 (t.k)), (.string (t.ch)), (.bool (t.ng)), t.rv.v, (.int .i64 (t.mn)), (.int .i64 (t.mx)), (.bool (t.lz)), t.kv.v], box _ _ 1 2 [(.int .i64 (0)), (.string ((⟨#[]⟩ : ByteArray))), (.bool (false)), (.slice none 0 0), (.int .i64 (0)), (.int .i64 (0)), (.bool (false)), (.slice none 0 0)]]) [] mixed st0 (by kernel_rfl) trivial
  ⟨Ob.box (v := (.agg #[(.int .i64 (t.k)), (.string (t.ch)), (.bool (t.ng)), t.rv.v, (.int .i64 (t.mn)), (.int .i64 (t.mx)), (.bool (t.lz)), t.kv.v])) rfl rfl rfl rfl rfl (fun _ _ _ _ c => (c.p e0)),
  Ob.alloc rfl rfl rfl rfl Try.zeroValue25 rfl, trivial⟩ ?_
 intro a1 w1 τ1 st1 f1
 obtain ⟨b1x1, e1⟩ : ∃ b, get a1 1 = b := ⟨_, rfl⟩
 obtain ⟨b1x2, e2⟩ : ∃ b, get a1 2 = b := ⟨_, rfl⟩
 have r0 : boxR 25 [(.int .i64 (t.k)), (.string (t.ch)), (.bool (t.ng)), t.rv.v, (.int .i64 (t.mn)), (.int .i64 (t.mx)), (.bool (t.lz)), t.kv.v] (τ1 0) b1x1 w1 := f1.rb 0 e1 rfl
 have r1 : boxR 25 [(.int .i64 (0)), (.string ((⟨#[]⟩ : ByteArray))), (.bool (false)), (.slice none 0 0), (.int .i64 (0)), (.int .i64 (0)), (.bool (false)), (.slice none 0 0)] (τ1 1) b1x2 w1 := f1.rb 1 e2 rfl
 clear f1
 show Code.wp _ _ _ a1 w1
 refine wp_seq ?_
 refine region_of_ops ?_
 refine ops_cut 3 (by kernel_rfl) ?_
 refine ops_St (bf := [0, 1, 3]) (sp := [det _ 6 _, det _ 7 _, zdet _ 8 (fun b : Sv => b.v) (fun _ => True) (fun b : Sv => zSl RowE (Gn none' w) b.v t.rows)]) [ib r0, ib r1] st1 (by kernel_rfl) ⟨r0, r1, trivial⟩
  ⟨Ob.d fun c => r_fieldAddr rfl Try.underlying25 rfl rfl Try.sizeOf22 ((c.p e1).trans r0.ptr),
  Ob.d fun c => r_load1 rfl Try.isAgg22 (c.n 0 rfl) ((c.ib 0 rfl).cell (j := 3) rfl),
  Ob.zc (f := fun b : Sv => b.v) (Ψ := fun _ => True) (Φ := fun b : Sv => zSl RowE (Gn none' w) b.v t.rows) fun {_ a_ _ _} c => ⟨_, _, (e_call1 rfl rfl Try.call45 (c.n 1 rfl)), (cloneRows_c t.rv.v t.rows _ (hT.at (st1.ext.trans c.J.ext)).rows (by omega)).mono (fun e w' ⟨v_, he_, hx_, hn_⟩ => by obtain ⟨s_, rfl⟩ := hn_.1.sl.sl.sv; exact ⟨s_, he_, hx_, trivial, c.sn st1 hx_ hn_⟩)⟩, trivial⟩ ?_
 intro a2 w2 τ2 st2 f2
 obtain ⟨e1, e2, -⟩ := f2.ks [(1, _), (2, _)] ⟨e1, e2, trivial⟩
 obtain ⟨rw1_, e8, -, hz2⟩ := f2.zd 2 rfl
 have e8 : get a2 8 = rw1_.v := e8
 replace r0 := f2.ib 0 rfl
 replace r1 := f2.ib 1 rfl
 have r2 : Fz (zSl RowE (Gn none' w) rw1_.v t.rows) τ2 w2 := hz2
 clear f2
 refine only_mk ?_
 refine ops_St (bf := [0, 1]) (sp := [det _ 9 _, box _ _ 0 1 [(.int .i64 (t.k)), (.string (t.ch)), (.bool (t.ng)), rw1_.v, (.int .i64 (t.mn)), (.int .i64 (t.mx)), (.bool (t.lz)), t.kv.v]]) [ib r0, ib r1, iz r2] st2 (by kernel_rfl) ⟨r0, r1, r2, trivial⟩
  ⟨Ob.d fun c => r_fieldAddr rfl Try.underlying25 rfl rfl Try.sizeOf22 ((c.p e1).trans r0.ptr),
  Ob.storeBox (off := 3) (v := rw1_.v) rfl rfl rfl rfl Try.sizeOf22 (Nat.le_of_ble_eq_true rfl) (by simp [Value.cells, Value.oneCell', Sv.v]) rfl (fun _ _ _ _ c => ⟨c.bp 0 rfl e1, c.ad (c.n 0 rfl) e1 rfl, (c.p e8)⟩), trivial⟩ ?_
 intro a3 w3 τ3 st3 f3
 obtain ⟨e1, e2, -⟩ := f3.ks [(1, _), (2, _)] ⟨e1, e2, trivial⟩
 replace r0 : boxR 25 [(.int .i64 (t.k)), (.string (t.ch)), (.bool (t.ng)), rw1_.v, (.int .i64 (t.mn)), (.int .i64 (t.mx)), (.bool (t.lz)), t.kv.v] (τ3 0) b1x1 w3 := f3.rb 1 e1 rfl
 replace r1 := f3.ib 1 rfl
 replace r2 := f3.iz 2 rfl
 clear f3
 show Code.wp _ _ _ a3 w3
 refine wp_seq ?_
 refine region_St (bf := [0]) (sp := [det _ 3 _]) [ib r0, ib r1, iz r2] mixed st3 (by kernel_rfl) ⟨r0, r1, r2, trivial⟩
  ⟨Ob.d fun c => r_assign rfl rfl, trivial⟩ ?_
 intro a4 w4 τ4 st4 f4
 obtain ⟨e1, e2, -⟩ := f4.ks [(1, _), (2, _)] ⟨e1, e2, trivial⟩
 have e3 : get a4 3 = (.slice none 0 0) := f4.v 0 rfl
 replace r0 := f4.ib 0 rfl
 replace r1 := f4.ib 1 rfl
 replace r2 := f4.iz 2 rfl
 clear f4
 show Code.wp _ _ _ a4 w4
 refine wp_seq ?_
 refine wp_seq ?_
 refine region_St (bf := [0, 1, 3, 0]) (sp := [det _ 10 _, det _ 11 _, det _ 12 _, det _ 13 _]) [ib r0, ib r1, iz r2] mixed st4 (by kernel_rfl) ⟨r0, r1, r2, trivial⟩
  ⟨Ob.d fun c => r_fieldAddr rfl Try.underlying25 rfl rfl Try.sizeOf23 ((c.p e1).trans r0.ptr),
  Ob.d fun c => r_load1 rfl Try.isAgg23 (c.n 0 rfl) ((c.ib 0 rfl).cell (j := 7) rfl),
  Ob.d fun c => r_len rfl Try.underlying23 (c.n 1 rfl) (hT.at st4.ext).tl.sl.sl,
  Ob.d fun c => r_move rfl rfl, trivial⟩ ?_
 intro a5 w5 τ5 st5 f5
 obtain ⟨e1, e2, e3, -⟩ := f5.ks [(1, _), (2, _), (3, _)] ⟨e1, e2, e3, trivial⟩
 have e11 : get a5 11 = t.kv.v := f5.v 1 rfl
 have e12 : get a5 12 = (.int .i64 ((t.kids.length : Int))) := f5.v 2 rfl
 have e13 : get a5 13 = (.int .i64 (0)) := f5.v 3 rfl
 replace r0 := f5.ib 0 rfl
 replace r1 := f5.ib 1 rfl
 replace r2 := f5.iz 2 rfl
 clear f5
 show Code.wp _ _ _ a5 w5
 refine wp_block ?_
 refine wp_loop (fun a_ w_ => ∃ (k : Nat) (u : Value) (ts : List Tr) (τ : Nat → Foot), (k ≤ t.kids.length) ∧
      (ts.map er = (t.kids.take k).map er) ∧
      St (Nw w) w 26 a_ w_ τ ∧
      get a_ 3 = u ∧
      get a_ 13 = (.int .i64 ((k : Int))) ∧
      get a_ 1 = b1x1 ∧
      get a_ 2 = b1x2 ∧
      get a_ 11 = t.kv.v ∧
      get a_ 12 = (.int .i64 ((t.kids.length : Int))) ∧
      ownR TrE 25 (ts) (τ 5) u w_ ∧
      Fz (zTl (Gn none' w) ts) τ w_ ∧
      boxR 25 [(.int .i64 (t.k)), (.string (t.ch)), (.bool (t.ng)), rw1_.v, (.int .i64 (t.mn)), (.int .i64 (t.mx)), (.bool (t.lz)), t.kv.v] (τ 0) b1x1 w_ ∧
      boxR 25 [(.int .i64 (0)), (.string ((⟨#[]⟩ : ByteArray))), (.bool (false)), (.slice none 0 0), (.int .i64 (0)), (.int .i64 (0)), (.bool (false)), (.slice none 0 0)] (τ 1) b1x2 w_ ∧
      Fz (zSl RowE (Gn none' w) rw1_.v t.rows) τ w_) (fun a_ _ => t.kids.length - (intOf (get a_ 13)).toNat) ?_ ?_
 · refine ⟨0, (.slice none 0 0), [], τ5, ?_, ?_, st5, e3, (e13.trans (int_eq (by omega))), e1, e2, e11, e12, ?_, ?_, r0, r1, r2⟩
   · omega
   · simp
   · exact ownR.nil _ _ _ _
   · exact Fz.tn _ _ _
 intro a6 w6 hI
 obtain ⟨k, u, ts, τ6, q0, q1, st6, e3, e13, e1, e2, e11, e12, r5, r6, r0, r1, r2⟩ := hI
 have hpk0 := hpk k
 have htl : ts.length = k := by have h_ := congrArg List.length q1; simp at h_; omega
 have m13 := e13
 refine wp_seq ?_
 refine region_St (bf := [0]) (sp := [det _ 14 _]) [ib r0, ib r1, iz r2, Ini.any _, Ini.any _, io r5, iz r6] mixed st6 (by kernel_rfl) ⟨r0, r1, r2, trivial, trivial, r5, r6, trivial⟩
  ⟨Ob.d fun c => r_lss rfl (c.p e13) (c.p e12), trivial⟩ ?_
 intro a7 w7 τ7 st7 f7
 obtain ⟨e1, e2, e3, e11, e12, e13, -⟩ := f7.ks [(1, _), (2, _), (3, _), (11, _), (12, _), (13, _)] ⟨e1, e2, e3, e11, e12, e13, trivial⟩
 have e14 : get a7 14 = (.bool (decide ((k : Int) < (t.kids.length : Int)))) := f7.v 0 rfl
 replace r0 := f7.ib 0 rfl
 replace r1 := f7.ib 1 rfl
 replace r2 := f7.iz 2 rfl
 replace r5 := f7.io 5 rfl
 replace r6 := f7.iz 6 rfl
 clear f7
 show Code.wp _ _ _ a7 w7
 refine wp_seq ?_
 refine wp_cond_split (t := decide ((k : Int) < (t.kids.length : Int))) e14 (fun hc1 => ?_) (fun hc1 => ?_)
 · try simp only [decide_eq_true_eq] at hc1
   refine wp_skip ?_
   show Code.wp _ _ _ a7 w7
   refine wp_seq ?_
   refine wp_block ?_
   refine wp_seq ?_
   refine region_St (bf := [0, 1, 0, 7]) (sp := [det _ 15 _, det _ 16 _, box _ _ 3 5 [(.int .i64 (0)), (.string ((⟨#[]⟩ : ByteArray))), (.bool (false)), (.slice none 0 0), (.int .i64 (0)), (.int .i64 (0)), (.bool (false)), (.slice none 0 0)], box _ _ 3 5 [(.int .i64 ((nth t.kids ((k : Int))).k)), (.string ((nth t.kids ((k : Int))).ch)), (.bool ((nth t.kids ((k : Int))).ng)), (nth t.kids ((k : Int))).rv.v, (.int .i64 ((nth t.kids ((k : Int))).mn)), (.int .i64 ((nth t.kids ((k : Int))).mx)), (.bool ((nth t.kids ((k : Int))).lz)), (nth t.kids ((k : Int))).kv.v]]) [ib r0, ib r1, iz r2, Ini.any _, Ini.any _, io r5, iz r6] mixed st7 (by kernel_rfl) ⟨r0, r1, r2, trivial, trivial, r5, r6, trivial⟩
    ⟨Ob.d fun c => r_indexAddr rfl Try.underlying23 Try.sizeOf25 (c.p e11) (hT.at st7.ext).tl.sl.sl (c.p e13) (by omega) (by omega),
    Ob.d fun c => r_loadN (vs := [(.int .i64 ((nth t.kids ((k : Int))).k)), (.string ((nth t.kids ((k : Int))).ch)), (.bool ((nth t.kids ((k : Int))).ng)), (nth t.kids ((k : Int))).rv.v, (.int .i64 ((nth t.kids ((k : Int))).mn)), (.int .i64 ((nth t.kids ((k : Int))).mx)), (.bool ((nth t.kids ((k : Int))).lz)), (nth t.kids ((k : Int))).kv.v]) rfl Try.isAgg25 Try.sizeOf25 (c.n 0 rfl) rfl (fun _ _ hj => ((hT.at (st7.ext.trans c.J.ext)).tl.sl).elem (nth_some (i := (k : Int)) (by omega) (by omega)) hj),
    Ob.alloc rfl rfl rfl rfl Try.zeroValue25 rfl,
    Ob.storeBox (off := 0) (v := (.agg #[(.int .i64 ((nth t.kids ((k : Int))).k)), (.string ((nth t.kids ((k : Int))).ch)), (.bool ((nth t.kids ((k : Int))).ng)), (nth t.kids ((k : Int))).rv.v, (.int .i64 ((nth t.kids ((k : Int))).mn)), (.int .i64 ((nth t.kids ((k : Int))).mx)), (.bool ((nth t.kids ((k : Int))).lz)), (nth t.kids ((k : Int))).kv.v])) rfl rfl rfl rfl Try.sizeOf25 (Nat.le_of_ble_eq_true rfl) (by simp [Value.cells, Value.oneCell', Sv.v]) rfl (fun _ _ _ _ c => ⟨c.rb 2 rfl, (c.rb 2 rfl).ptr, (c.n 1 rfl)⟩), trivial⟩ ?_
   intro a8 w8 τ8 st8 f8
   obtain ⟨b8x5, e5⟩ : ∃ b, get a8 5 = b := ⟨_, rfl⟩
   obtain ⟨e1, e2, e3, e11, e12, e13, e14, -⟩ := f8.ks [(1, _), (2, _), (3, _), (11, _), (12, _), (13, _), (14, _)] ⟨e1, e2, e3, e11, e12, e13, e14, trivial⟩
   replace r0 := f8.ib 0 rfl
   replace r1 := f8.ib 1 rfl
   replace r2 := f8.iz 2 rfl
   have r3 : boxR 25 [(.int .i64 ((nth t.kids ((k : Int))).k)), (.string ((nth t.kids ((k : Int))).ch)), (.bool ((nth t.kids ((k : Int))).ng)), (nth t.kids ((k : Int))).rv.v, (.int .i64 ((nth t.kids ((k : Int))).mn)), (.int .i64 ((nth t.kids ((k : Int))).mx)), (.bool ((nth t.kids ((k : Int))).lz)), (nth t.kids ((k : Int))).kv.v] (τ8 3) b8x5 w8 := f8.rb 3 e5 rfl
   replace r5 := f8.io 5 rfl
   replace r6 := f8.iz 6 rfl
   clear f8
   show Code.wp _ _ _ a8 w8
   refine region_of_ops ?_
   refine ops_cut 3 (by kernel_rfl) ?_
   refine ops_St (bf := [0, 0, 2]) (sp := [det _ 17 _, det _ 18 _, zdet _ 19 (fun b : Tr => b.v) (fun b : Tr => er b = er (nth t.kids ((k : Int)))) (fun b : Tr => zTr (Gn none' w) b)]) [ib r0, ib r1, iz r2, ib r3, Ini.any _, io r5, iz r6] st8 (by kernel_rfl) ⟨r0, r1, r2, r3, trivial, r5, r6, trivial⟩
    ⟨Ob.d fun c => r_move rfl (c.p e3),
    Ob.d fun c => r_loadN (vs := [(.int .i64 ((nth t.kids ((k : Int))).k)), (.string ((nth t.kids ((k : Int))).ch)), (.bool ((nth t.kids ((k : Int))).ng)), (nth t.kids ((k : Int))).rv.v, (.int .i64 ((nth t.kids ((k : Int))).mn)), (.int .i64 ((nth t.kids ((k : Int))).mx)), (.bool ((nth t.kids ((k : Int))).lz)), (nth t.kids ((k : Int))).kv.v]) rfl Try.isAgg25 Try.sizeOf25 ((c.p e5).trans r3.ptr) rfl (fun _ _ hj => (c.ib 3 rfl).cell hj),
    Ob.zc (f := fun b : Tr => b.v) (Ψ := fun b : Tr => er b = er (nth t.kids ((k : Int)))) (Φ := fun b : Tr => zTr (Gn none' w) b) fun {_ a_ _ _} c => ⟨_, _, (e_call1 rfl rfl Try.call37 (c.n 1 rfl)), (ih _ (nth_memI (by omega) (by omega)) _ ((hT.at (st8.ext.trans c.J.ext)).tl.el (by omega) (by omega)) (by omega)).mono (fun e w' ⟨t_, he_, hx_, ht_, hq_⟩ => ⟨t_, he_, hx_, hq_, c.tn st8 hx_ ht_⟩)⟩, trivial⟩ ?_
   intro a9 w9 τ9 st9 f9
   obtain ⟨e1, e2, e3, e5, e11, e12, e13, e14, -⟩ := f9.ks [(1, _), (2, _), (3, _), (5, _), (11, _), (12, _), (13, _), (14, _)] ⟨e1, e2, e3, e5, e11, e12, e13, e14, trivial⟩
   have e17 : get a9 17 = u := f9.v 0 rfl
   obtain ⟨t2_, e19, hqt2_, hz9⟩ := f9.zd 2 rfl
   have e19 : get a9 19 = (.agg #[(.int .i64 (t2_.k)), (.string (t2_.ch)), (.bool (t2_.ng)), t2_.rv.v, (.int .i64 (t2_.mn)), (.int .i64 (t2_.mx)), (.bool (t2_.lz)), t2_.kv.v]) := e19
   replace r0 := f9.ib 0 rfl
   replace r1 := f9.ib 1 rfl
   replace r2 := f9.iz 2 rfl
   replace r3 := f9.ib 3 rfl
   replace r5 := f9.io 5 rfl
   replace r6 := f9.iz 6 rfl
   have r4 : Fz (zTr (Gn none' w) t2_) τ9 w9 := hz9
   clear f9
   refine only_mk ?_
   refine ops_St (bf := [0, 1, 3]) (sp := [own TrE 25 _ 7 20 ([t2_]), own _ _ _ 5 21 _, own _ _ _ 5 3 _]) [ib r0, ib r1, iz r2, ib r3, iz r4, io r5, iz r6] st9 (by kernel_rfl) ⟨r0, r1, r2, r3, r4, r5, r6, trivial⟩
    ⟨Ob.buildSlice (cells := #[(.int .i64 (t2_.k)), (.string (t2_.ch)), (.bool (t2_.ng)), t2_.rv.v, (.int .i64 (t2_.mn)), (.int .i64 (t2_.mx)), (.bool (t2_.lz)), t2_.kv.v]) rfl rfl rfl rfl Try.underlying23 Try.sizeOf25 Try.zeroValue25 rfl (by decide) (by decide) (fun _ _ _ _ c => fill1 (c.p e19) (by kernel_rfl)) rfl,
    Ob.append (t0 := 3) rfl rfl rfl rfl Try.underlying23 (i := Try.t25) rfl rfl rfl rfl (by simp only [maxLen]; (try simp); omega) (by show _ * 104 ≤ _; (try simp); omega) (fun _ _ _ _ c => ⟨c.ip 5 rfl e3, c.sm (c.p e17) e3, ⟨_, rfl, (c.ro 0 rfl).1.sl⟩⟩),
    Ob.moveT (t0 := 21) rfl rfl rfl rfl rfl (.inr rfl) (fun _ _ _ _ c => ⟨c.ro 1 rfl, rfl⟩), trivial⟩ ?_
   intro a10 w10 τ10 st10 f10
   obtain ⟨b10x20, e20⟩ : ∃ b, get a10 20 = b := ⟨_, rfl⟩
   obtain ⟨b10x3, e3⟩ : ∃ b, get a10 3 = b := ⟨_, rfl⟩
   obtain ⟨e1, e2, e5, e11, e12, e13, e14, -⟩ := f10.ks [(1, _), (2, _), (5, _), (11, _), (12, _), (13, _), (14, _)] ⟨e1, e2, e5, e11, e12, e13, e14, trivial⟩
   replace r0 := f10.ib 0 rfl
   replace r1 := f10.ib 1 rfl
   replace r2 := f10.iz 2 rfl
   replace r3 := f10.ib 3 rfl
   replace r4 := f10.iz 4 rfl
   replace r5 : ownR TrE 25 (ts ++ ([t2_])) (τ10 5) b10x3 w10 := f10.ro 2 e3 rfl
   replace r6 := f10.iz 6 rfl
   have r7 : ownR TrE 25 ([t2_]) (τ10 7) b10x20 w10 := f10.ro 0 e20 rfl
   clear f10
   show _
   show Code.wp _ _ _ a10 w10
   refine region_St (bf := [0, 1]) (sp := [det _ 22 _, det _ 13 _]) [ib r0, ib r1, iz r2, ib r3, iz r4, io r5, iz r6, io r7] mixed st10 (by kernel_rfl) ⟨r0, r1, r2, r3, r4, r5, r6, r7, trivial⟩
    ⟨Ob.d fun c => r_add rfl (c.p e13) rfl (by omega),
    Ob.d fun c => r_move rfl (c.n 0 rfl), trivial⟩ ?_
   intro a11 w11 τ11 st11 f11
   obtain ⟨e1, e2, e3, e5, e11, e12, e14, -⟩ := f11.ks [(1, _), (2, _), (3, _), (5, _), (11, _), (12, _), (14, _)] ⟨e1, e2, e3, e5, e11, e12, e14, trivial⟩
   have e13 : get a11 13 = (.int .i64 ((k : Int) + 1)) := f11.v 1 rfl
   replace r0 := f11.ib 0 rfl
   replace r1 := f11.ib 1 rfl
   replace r2 := f11.iz 2 rfl
   replace r3 := f11.ib 3 rfl
   replace r4 := f11.iz 4 rfl
   replace r5 := f11.io 5 rfl
   replace r6 := f11.iz 6 rfl
   replace r7 := f11.io 7 rfl
   clear f11
   refine ⟨⟨k + 1, b10x3, ts ++ ([t2_]), τ11, ?_, ?_, st11, e3, (e13.trans (int_eq (by omega))), e1, e2, e11, e12, ?_, ?_, r0, r1, r2⟩, ?_⟩
   · omega
   · rw [take_snoc (by omega), List.map_append, List.map_append, q1]; simp [*]
   · exact r5.cast (by rfl)
   · exact Fz.snoc r6 r4
   · simp only [m13, e13, intOf]; omega
 try simp only [decide_eq_false_iff_not, Int.not_lt] at hc1
 refine wp_exit ?_
 repeat (with_reducible refine then_exit ?_)
 refine exit_here ?_
 show Code.wp _ _ _ a7 w7
 refine wp_seq ?_
 obtain ⟨kv0, rfl⟩ := r5.isSl.sv
 refine region_St (bf := [0, 1, 3]) (sp := [det _ 23 _, det _ 24 _, box _ _ 0 1 [(.int .i64 (t.k)), (.string (t.ch)), (.bool (t.ng)), rw1_.v, (.int .i64 (t.mn)), (.int .i64 (t.mx)), (.bool (t.lz)), kv0.v]]) [ib r0, ib r1, iz r2, Ini.any _, Ini.any _, io r5, iz r6] mixed st7 (by kernel_rfl) ⟨r0, r1, r2, trivial, trivial, r5, r6, trivial⟩
  ⟨Ob.d fun c => r_move rfl (c.p e3),
  Ob.d fun c => r_fieldAddr rfl Try.underlying25 rfl rfl Try.sizeOf23 ((c.p e1).trans r0.ptr),
  Ob.storeBox (off := 7) (v := kv0.v) rfl rfl rfl rfl Try.sizeOf23 (Nat.le_of_ble_eq_true rfl) (by simp [Value.cells, Value.oneCell', Sv.v]) rfl (fun _ _ _ _ c => ⟨c.bp 0 rfl e1, c.ad (c.n 1 rfl) e1 rfl, (c.n 0 rfl)⟩), trivial⟩ ?_
 intro a12 w12 τ12 st12 f12
 obtain ⟨e1, e2, -⟩ := f12.ks [(1, _), (2, _)] ⟨e1, e2, trivial⟩
 replace r0 : boxR 25 [(.int .i64 (t.k)), (.string (t.ch)), (.bool (t.ng)), rw1_.v, (.int .i64 (t.mn)), (.int .i64 (t.mx)), (.bool (t.lz)), kv0.v] (τ12 0) b1x1 w12 := f12.rb 2 e1 rfl
 replace r1 := f12.ib 1 rfl
 replace r2 := f12.iz 2 rfl
 replace r5 := f12.io 5 rfl
 replace r6 := f12.iz 6 rfl
 clear f12
 show Code.wp _ _ _ a12 w12
 refine wp_seq ?_
 refine region_St (bf := [0, 1]) (sp := [det _ 25 _, box _ _ 1 2 [(.int .i64 (t.k)), (.string (t.ch)), (.bool (t.ng)), rw1_.v, (.int .i64 (t.mn)), (.int .i64 (t.mx)), (.bool (t.lz)), kv0.v]]) [ib r0, ib r1, iz r2, Ini.any _, Ini.any _, io r5, iz r6] mixed st12 (by kernel_rfl) ⟨r0, r1, r2, trivial, trivial, r5, r6, trivial⟩
  ⟨Ob.d fun c => r_loadN (vs := [(.int .i64 (t.k)), (.string (t.ch)), (.bool (t.ng)), rw1_.v, (.int .i64 (t.mn)), (.int .i64 (t.mx)), (.bool (t.lz)), kv0.v]) rfl Try.isAgg25 Try.sizeOf25 ((c.p e1).trans r0.ptr) rfl (fun _ _ hj => (c.ib 0 rfl).cell hj),
  Ob.storeBox (off := 0) (v := (.agg #[(.int .i64 (t.k)), (.string (t.ch)), (.bool (t.ng)), rw1_.v, (.int .i64 (t.mn)), (.int .i64 (t.mx)), (.bool (t.lz)), kv0.v])) rfl rfl rfl rfl Try.sizeOf25 (Nat.le_of_ble_eq_true rfl) (by simp [Value.cells, Value.oneCell', Sv.v]) rfl (fun _ _ _ _ c => ⟨c.bp 1 rfl e2, c.ad ((c.p e2).trans r1.ptr) e2 rfl, (c.n 0 rfl)⟩), trivial⟩ ?_
 intro a13 w13 τ13 st13 f13
 obtain ⟨e2, -⟩ := f13.ks [(2, _)] ⟨e2, trivial⟩
 replace r1 : boxR 25 [(.int .i64 (t.k)), (.string (t.ch)), (.bool (t.ng)), rw1_.v, (.int .i64 (t.mn)), (.int .i64 (t.mx)), (.bool (t.lz)), kv0.v] (τ13 1) b1x2 w13 := f13.rb 1 e2 rfl
 replace r2 := f13.iz 2 rfl
 replace r5 := f13.io 5 rfl
 replace r6 := f13.iz 6 rfl
 clear f13
 show Code.wp _ _ _ a13 w13
 refine wp_ret ?_
 repeat (first | with_reducible refine then_ret ?_ | with_reducible refine block_ret ?_)
 refine ret1c (fn := Try.f37) rfl st13.defers e2 r1 Try.isAgg25 Try.sizeOf25 rfl ?_
 exact ⟨⟨t.k, t.ch, t.ng, rw1_, t.rows, t.mn, t.mx, t.lz, kv0, ts⟩, rfl, st13.ext0, .mk r2.1 (fun hn => (r2.2 hn).2) r5.1.sl (fun hn => .inr (st13.bnd _ _ (r5.blk hn)).1) r6.outs, by rw [er_eq, er_eq t, q1, List.take_of_length_le (by omega)]⟩

theorem clone_c (t : Tr) : ∀ (w : World), TrS w t → wtF t ≤ 1000000 → Calls Try.prog 37 #[t.v] w (fun e w' => ∃ t' : Tr, e = .returned t'.v ∧ Ext none' w w' ∧ TrT (Gn none' w) w' t' ∧ er t' = er t) := Tr.ind (P := fun t => ∀ (w : World), TrS w t → wtF t ≤ 1000000 → Calls Try.prog 37 #[t.v] w (fun e w' => ∃ t' : Tr, e = .returned t'.v ∧ Ext none' w w' ∧ TrT (Gn none' w) w' t' ∧ er t' = er t)) clone_step t
end B
end Go.Proofs.Ytocmchlhbniloaa
