/-
  Own texts, put together by a program (flat.py): TrK, TrM, TrN, TrO, TrQ, TreeL, TrW, ReadF, ReadL, Join, RowP, ReadM.
-/
import Derived.Test.YtocmchlhbniloaaFt2
set_option linter.unusedSimpArgs false
set_option linter.unusedVariables false
set_option linter.unusedSectionVars false
namespace Go.Proofs.Ytocmchlhbniloaa
namespace B
open Go.RowKit
open Srt
set_option maxRecDepth 100000 in
theorem kids_c (F : Foot) (kind : Int) (v : Value) (xs : List Tr) (w : World) (hS : SlT TrE w v xs) (hF : ∀ t ∈ xs, TrT F w t) (hP : sumL (xs.map wtF) ≤ 1000000) : Calls Try.prog 32 #[(.int .i64 (kind)), v] w (fun e w' => ∃ v' ts, e = .returned v' ∧ Ext none' w w' ∧ NewT TrE 25 w w' v' ts ∧ (∀ t ∈ ts, TrT (fun g => (Gn F w) g ∧ v'.ownBlock ≠ some g) w' t) ∧ ts.map er = flatF kind (xs.map er)) := by
 refine enter (n := 35) Try.func32 rfl rfl (Nat.le_of_ble_eq_true rfl) ?_
 intro a0 τ0 ha st0
 have e0 : get a0 0 = (.int .i64 (kind)) := ha 0 _ rfl
 have e1 : get a0 1 = v := ha 1 _ rfl
 clear ha
 have hle := hS.le
 have r9 : Fz (zTl (Gn F w) xs) τ0 w := TrT.inzs hF st0
 refine wp_seq ?_
 refine region_St (bf := [0]) (sp := [det _ 4 _]) [Ini.any _, Ini.any _, Ini.any _, Ini.any _, Ini.any _, Ini.any _, Ini.any _, Ini.any _, Ini.any _, iz r9] mixed st0 (by kernel_rfl) ⟨trivial, trivial, trivial, trivial, trivial, trivial, trivial, trivial, trivial, r9, trivial⟩
  ⟨Ob.d fun c => r_assign rfl rfl, trivial⟩ ?_
 intro a1 w1 τ1 st1 f1
 obtain ⟨e0, e1, -⟩ := f1.ks [(0, _), (1, _)] ⟨e0, e1, trivial⟩
 have e4 : get a1 4 = (.slice none 0 0) := f1.v 0 rfl
 replace r9 := f1.iz 9 rfl
 clear f1
 show Code.wp _ _ _ a1 w1
 refine wp_seq ?_
 refine region_St (bf := [0]) (sp := [det _ 5 _]) [Ini.any _, Ini.any _, Ini.any _, Ini.any _, Ini.any _, Ini.any _, Ini.any _, Ini.any _, Ini.any _, iz r9] mixed st1 (by kernel_rfl) ⟨trivial, trivial, trivial, trivial, trivial, trivial, trivial, trivial, trivial, r9, trivial⟩
  ⟨Ob.d fun c => r_assign rfl rfl, trivial⟩ ?_
 intro a2 w2 τ2 st2 f2
 obtain ⟨e0, e1, e4, -⟩ := f2.ks [(0, _), (1, _), (4, _)] ⟨e0, e1, e4, trivial⟩
 have e5 : get a2 5 = (.slice none 0 0) := f2.v 0 rfl
 replace r9 := f2.iz 9 rfl
 clear f2
 show Code.wp _ _ _ a2 w2
 refine wp_seq ?_
 refine wp_seq ?_
 refine region_St (bf := [0]) (sp := [det _ 6 _]) [Ini.any _, Ini.any _, Ini.any _, Ini.any _, Ini.any _, Ini.any _, Ini.any _, Ini.any _, Ini.any _, iz r9] mixed st2 (by kernel_rfl) ⟨trivial, trivial, trivial, trivial, trivial, trivial, trivial, trivial, trivial, r9, trivial⟩
  ⟨Ob.d fun c => r_assign rfl rfl, trivial⟩ ?_
 intro a3 w3 τ3 st3 f3
 obtain ⟨e0, e1, e4, e5, -⟩ := f3.ks [(0, _), (1, _), (4, _), (5, _)] ⟨e0, e1, e4, e5, trivial⟩
 have e6 : get a3 6 = (.int .i64 (0)) := f3.v 0 rfl
 replace r9 := f3.iz 9 rfl
 clear f3
 show Code.wp _ _ _ a3 w3
 refine wp_block ?_
 refine wp_loop (fun a_ w_ => ∃ (k : Nat) (u : Value) (ts : List Tr) (τ : Nat → Foot), (k ≤ xs.length) ∧
      (ts.map er = flatF kind ((xs.take k).map er)) ∧
      St (Nw w) w 35 a_ w_ τ ∧
      get a_ 5 = u ∧
      get a_ 6 = (.int .i64 ((k : Int))) ∧
      get a_ 0 = (.int .i64 (kind)) ∧
      get a_ 1 = v ∧
      get a_ 4 = (.slice none 0 0) ∧
      ownR TrE 25 (ts) (τ 5) u w_ ∧
      Fz (zTl (Gn F w) ts) τ w_ ∧
      Fz (zTl (Gn F w) xs) τ w_) (fun a_ _ => xs.length - (intOf (get a_ 6)).toNat) ?_ ?_
 · refine ⟨0, (.slice none 0 0), [], τ3, ?_, ?_, st3, e5, (e6.trans (int_eq (by omega))), e0, e1, e4, ?_, ?_, r9⟩
   · omega
   · simp [flatF]
   · exact ownR.nil _ _ _ _
   · exact Fz.tn _ _ _
 intro a4 w4 hI
 obtain ⟨k, u, ts, τ4, q0, q1, st4, e5, e6, e0, e1, e4, r5, r6, r9⟩ := hI
 have hw := wt_at (xs := xs) (k := k)
 have hrm := flat_roomw q1
 have hew := (wtF_bound (nth xs (k : Int))).1
 have m6 := e6
 refine wp_seq ?_
 refine wp_seq ?_
 refine region_St (bf := [0, 0, 2, 7]) (sp := [det _ 7 _, det _ 8 _, det _ 9 _, det _ 10 _]) [Ini.any _, Ini.any _, Ini.any _, Ini.any _, Ini.any _, io r5, iz r6, Ini.any _, Ini.any _, iz r9] mixed st4 (by kernel_rfl) ⟨trivial, trivial, trivial, trivial, trivial, r5, r6, trivial, trivial, r9, trivial⟩
  ⟨Ob.d fun c => r_move rfl (c.p e6),
  Ob.d fun c => r_move rfl (c.p e1),
  Ob.d fun c => r_len rfl Try.underlying23 (c.n 1 rfl) ((⟨hS, fun t_ h_ => (hF t_ h_).s⟩ : TlS w v xs).at st4.ext).sl.sl,
  Ob.d fun c => r_lss rfl (c.n 0 rfl) (c.n 2 rfl), trivial⟩ ?_
 intro a5 w5 τ5 st5 f5
 obtain ⟨e0, e1, e4, e5, e6, -⟩ := f5.ks [(0, _), (1, _), (4, _), (5, _), (6, _)] ⟨e0, e1, e4, e5, e6, trivial⟩
 have e10 : get a5 10 = (.bool (decide ((k : Int) < (xs.length : Int)))) := f5.v 3 rfl
 replace r5 := f5.io 5 rfl
 replace r6 := f5.iz 6 rfl
 replace r9 := f5.iz 9 rfl
 clear f5
 show Code.wp _ _ _ a5 w5
 refine wp_cond_split (t := decide ((k : Int) < (xs.length : Int))) e10 (fun hc1 => ?_) (fun hc1 => ?_)
 · try simp only [decide_eq_true_eq] at hc1
   refine wp_skip ?_
   show Code.wp _ _ _ a5 w5
   refine wp_seq ?_
   refine wp_block ?_
   refine wp_seq ?_
   refine region_St (bf := [0, 0, 3, 7, 15, 0, 63]) (sp := [det _ 13 _, det _ 14 _, det _ 15 _, det _ 16 _, det _ 17 _, det _ 18 _, det _ 19 _]) [Ini.any _, Ini.any _, Ini.any _, Ini.any _, Ini.any _, io r5, iz r6, Ini.any _, Ini.any _, iz r9] mixed st5 (by kernel_rfl) ⟨trivial, trivial, trivial, trivial, trivial, r5, r6, trivial, trivial, r9, trivial⟩
    ⟨Ob.d fun c => r_move rfl (c.p e1),
    Ob.d fun c => r_move rfl (c.p e6),
    Ob.d fun c => r_indexAddr rfl Try.underlying23 Try.sizeOf25 (c.n 0 rfl) ((⟨hS, fun t_ h_ => (hF t_ h_).s⟩ : TlS w v xs).at st5.ext).sl.sl (c.n 1 rfl) (by omega) (by omega),
    Ob.d fun c => r_fieldAddr rfl Try.underlying25 rfl rfl Try.sizeOf3 (c.n 2 rfl),
    Ob.d fun c => r_load1 rfl Try.isAgg3 (c.n 3 rfl) ((((⟨hS, fun t_ h_ => (hF t_ h_).s⟩ : TlS w v xs).at (st5.ext.trans c.J.ext)).sl).elem (j := 0) (nth_some (i := (k : Int)) (by omega) (by omega)) rfl),
    Ob.d fun c => r_move rfl (c.p e0),
    Ob.d fun c => r_eql rfl (c.n 4 rfl) (c.n 5 rfl), trivial⟩ ?_
   intro a6 w6 τ6 st6 f6
   obtain ⟨e0, e1, e4, e5, e6, e10, -⟩ := f6.ks [(0, _), (1, _), (4, _), (5, _), (6, _), (10, _)] ⟨e0, e1, e4, e5, e6, e10, trivial⟩
   have e19 : get a6 19 = (.bool (decide ((nth xs ((k : Int))).k = kind))) := f6.v 6 rfl
   replace r5 := f6.io 5 rfl
   replace r6 := f6.iz 6 rfl
   replace r9 := f6.iz 9 rfl
   clear f6
   show Code.wp _ _ _ a6 w6
   refine wp_cond_split (t := decide ((nth xs ((k : Int))).k = kind)) e19 (fun hc2 => ?_) (fun hc2 => ?_)
   · try simp only [decide_eq_true_eq] at hc2
     refine region_St (bf := [0, 0, 0, 6, 14, 30, 63, 127]) (sp := [det _ 20 _, det _ 21 _, det _ 22 _, det _ 23 _, det _ 24 _, det _ 25 _, own _ _ _ 5 26 _, own _ _ _ 5 5 _]) [Ini.any _, Ini.any _, Ini.any _, Ini.any _, Ini.any _, io r5, iz r6, Ini.any _, Ini.any _, iz r9] mixed st6 (by kernel_rfl) ⟨trivial, trivial, trivial, trivial, trivial, r5, r6, trivial, trivial, r9, trivial⟩
      ⟨Ob.d fun c => r_move rfl (c.p e5),
      Ob.d fun c => r_move rfl (c.p e1),
      Ob.d fun c => r_move rfl (c.p e6),
      Ob.d fun c => r_indexAddr rfl Try.underlying23 Try.sizeOf25 (c.n 1 rfl) ((⟨hS, fun t_ h_ => (hF t_ h_).s⟩ : TlS w v xs).at st6.ext).sl.sl (c.n 2 rfl) (by omega) (by omega),
      Ob.d fun c => r_fieldAddr rfl Try.underlying25 rfl rfl Try.sizeOf23 (c.n 3 rfl),
      Ob.d fun c => r_load1 rfl Try.isAgg23 (c.n 4 rfl) ((((⟨hS, fun t_ h_ => (hF t_ h_).s⟩ : TlS w v xs).at (st6.ext.trans c.J.ext)).sl).elem (j := 7) (nth_some (i := (k : Int)) (by omega) (by omega)) rfl),
      Ob.append (t0 := 5) rfl rfl rfl rfl Try.underlying23 (i := Try.t25) rfl rfl rfl rfl (by simp only [maxLen]; (try simp); omega) (by show _ * 104 ≤ _; (try simp); omega) (fun _ _ _ _ c => ⟨c.ip 5 rfl e5, c.sm (c.n 0 rfl) e5, ⟨_, (c.n 5 rfl), (((⟨hS, fun t_ h_ => (hF t_ h_).s⟩ : TlS w v xs).at (st6.ext.trans c.J.ext)).el (by omega) (by omega)).tl.sl⟩⟩),
      Ob.moveT (t0 := 26) rfl rfl rfl rfl rfl (.inr rfl) (fun _ _ _ _ c => ⟨c.ro 6 rfl, rfl⟩), trivial⟩ ?_
     intro a7 w7 τ7 st7 f7
     obtain ⟨b7x5, e5⟩ : ∃ b, get a7 5 = b := ⟨_, rfl⟩
     obtain ⟨e0, e1, e4, e6, e10, e19, -⟩ := f7.ks [(0, _), (1, _), (4, _), (6, _), (10, _), (19, _)] ⟨e0, e1, e4, e6, e10, e19, trivial⟩
     replace r5 : ownR TrE 25 (ts ++ ((nth xs ((k : Int))).kids)) (τ7 5) b7x5 w7 := f7.ro 7 e5 rfl
     replace r6 := f7.iz 6 rfl
     replace r9 := f7.iz 9 rfl
     clear f7
     show _
     show Code.wp _ _ _ a7 w7
     refine region_St (bf := [0, 1, 3]) (sp := [det _ 11 _, det _ 12 _, det _ 6 _]) [Ini.any _, Ini.any _, Ini.any _, Ini.any _, Ini.any _, io r5, iz r6, Ini.any _, Ini.any _, iz r9] mixed st7 (by kernel_rfl) ⟨trivial, trivial, trivial, trivial, trivial, r5, r6, trivial, trivial, r9, trivial⟩
      ⟨Ob.d fun c => r_move rfl (c.p e6),
      Ob.d fun c => r_add rfl (c.n 0 rfl) rfl (by omega),
      Ob.d fun c => r_assign rfl (c.n 1 rfl), trivial⟩ ?_
     intro a8 w8 τ8 st8 f8
     obtain ⟨e0, e1, e4, e5, e10, e19, -⟩ := f8.ks [(0, _), (1, _), (4, _), (5, _), (10, _), (19, _)] ⟨e0, e1, e4, e5, e10, e19, trivial⟩
     have e6 : get a8 6 = (.int .i64 ((k : Int) + 1)) := f8.v 2 rfl
     replace r5 := f8.io 5 rfl
     replace r6 := f8.iz 6 rfl
     replace r9 := f8.iz 9 rfl
     clear f8
     refine ⟨⟨k + 1, b7x5, ts ++ ((nth xs ((k : Int))).kids), τ8, ?_, ?_, st8, e5, (e6.trans (int_eq (by omega))), e0, e1, e4, ?_, ?_, r9⟩, ?_⟩
     · omega
     · first | exact flat_hit (by omega) q1 rfl (by assumption) rfl | exact flat_miss (by omega) q1 rfl (by assumption)
     · exact r5.cast (by rfl)
     · exact Fz.app r6 (r9.e (by omega) (by omega)).kl
     · simp only [m6, e6, intOf]; omega
   try simp only [decide_eq_false_iff_not] at hc2
   refine region_St (bf := [0, 0, 0, 6, 14, 30, 63, 127]) (sp := [det _ 27 _, det _ 28 _, det _ 29 _, det _ 30 _, det _ 31 _, own TrE 25 _ 0 32 ([(nth xs ((k : Int)))]), own _ _ _ 5 33 _, own _ _ _ 5 5 _]) [Ini.any _, Ini.any _, Ini.any _, Ini.any _, Ini.any _, io r5, iz r6, Ini.any _, Ini.any _, iz r9] mixed st6 (by kernel_rfl) ⟨trivial, trivial, trivial, trivial, trivial, r5, r6, trivial, trivial, r9, trivial⟩
    ⟨Ob.d fun c => r_move rfl (c.p e5),
    Ob.d fun c => r_move rfl (c.p e1),
    Ob.d fun c => r_move rfl (c.p e6),
    Ob.d fun c => r_indexAddr rfl Try.underlying23 Try.sizeOf25 (c.n 1 rfl) ((⟨hS, fun t_ h_ => (hF t_ h_).s⟩ : TlS w v xs).at st6.ext).sl.sl (c.n 2 rfl) (by omega) (by omega),
    Ob.d fun c => r_loadN (vs := [(.int .i64 ((nth xs ((k : Int))).k)), (.string ((nth xs ((k : Int))).ch)), (.bool ((nth xs ((k : Int))).ng)), (nth xs ((k : Int))).rv.v, (.int .i64 ((nth xs ((k : Int))).mn)), (.int .i64 ((nth xs ((k : Int))).mx)), (.bool ((nth xs ((k : Int))).lz)), (nth xs ((k : Int))).kv.v]) rfl Try.isAgg25 Try.sizeOf25 (c.n 3 rfl) rfl (fun _ _ hj => (((⟨hS, fun t_ h_ => (hF t_ h_).s⟩ : TlS w v xs).at (st6.ext.trans c.J.ext)).sl).elem (nth_some (i := (k : Int)) (by omega) (by omega)) hj),
    Ob.buildSlice (cells := #[(.int .i64 ((nth xs ((k : Int))).k)), (.string ((nth xs ((k : Int))).ch)), (.bool ((nth xs ((k : Int))).ng)), (nth xs ((k : Int))).rv.v, (.int .i64 ((nth xs ((k : Int))).mn)), (.int .i64 ((nth xs ((k : Int))).mx)), (.bool ((nth xs ((k : Int))).lz)), (nth xs ((k : Int))).kv.v]) rfl rfl rfl rfl Try.underlying23 Try.sizeOf25 Try.zeroValue25 rfl (by decide) (by decide) (fun _ _ _ _ c => fill1 (c.n 4 rfl) (by kernel_rfl)) rfl,
    Ob.append (t0 := 5) rfl rfl rfl rfl Try.underlying23 (i := Try.t25) rfl rfl rfl rfl (by simp only [maxLen]; (try simp); omega) (by show _ * 104 ≤ _; (try simp); omega) (fun _ _ _ _ c => ⟨c.ip 5 rfl e5, c.sm (c.n 0 rfl) e5, ⟨_, rfl, (c.ro 5 rfl).1.sl⟩⟩),
    Ob.moveT (t0 := 33) rfl rfl rfl rfl rfl (.inr rfl) (fun _ _ _ _ c => ⟨c.ro 6 rfl, rfl⟩), trivial⟩ ?_
   intro a9 w9 τ9 st9 f9
   obtain ⟨b9x32, e32⟩ : ∃ b, get a9 32 = b := ⟨_, rfl⟩
   obtain ⟨b9x5, e5⟩ : ∃ b, get a9 5 = b := ⟨_, rfl⟩
   obtain ⟨e0, e1, e4, e6, e10, e19, -⟩ := f9.ks [(0, _), (1, _), (4, _), (6, _), (10, _), (19, _)] ⟨e0, e1, e4, e6, e10, e19, trivial⟩
   have r0 : ownR TrE 25 ([(nth xs ((k : Int)))]) (τ9 0) b9x32 w9 := f9.ro 5 e32 rfl
   replace r5 : ownR TrE 25 (ts ++ [(nth xs ((k : Int)))]) (τ9 5) b9x5 w9 := f9.ro 7 e5 rfl
   replace r6 := f9.iz 6 rfl
   replace r9 := f9.iz 9 rfl
   clear f9
   show _
   show Code.wp _ _ _ a9 w9
   refine region_St (bf := [0, 1, 3]) (sp := [det _ 11 _, det _ 12 _, det _ 6 _]) [io r0, Ini.any _, Ini.any _, Ini.any _, Ini.any _, io r5, iz r6, Ini.any _, Ini.any _, iz r9] mixed st9 (by kernel_rfl) ⟨r0, trivial, trivial, trivial, trivial, r5, r6, trivial, trivial, r9, trivial⟩
    ⟨Ob.d fun c => r_move rfl (c.p e6),
    Ob.d fun c => r_add rfl (c.n 0 rfl) rfl (by omega),
    Ob.d fun c => r_assign rfl (c.n 1 rfl), trivial⟩ ?_
   intro a10 w10 τ10 st10 f10
   obtain ⟨e0, e1, e4, e5, e10, e19, -⟩ := f10.ks [(0, _), (1, _), (4, _), (5, _), (10, _), (19, _)] ⟨e0, e1, e4, e5, e10, e19, trivial⟩
   have e6 : get a10 6 = (.int .i64 ((k : Int) + 1)) := f10.v 2 rfl
   replace r0 := f10.io 0 rfl
   replace r5 := f10.io 5 rfl
   replace r6 := f10.iz 6 rfl
   replace r9 := f10.iz 9 rfl
   clear f10
   refine ⟨⟨k + 1, b9x5, ts ++ [(nth xs ((k : Int)))], τ10, ?_, ?_, st10, e5, (e6.trans (int_eq (by omega))), e0, e1, e4, ?_, ?_, r9⟩, ?_⟩
   · omega
   · first | exact flat_hit (by omega) q1 rfl (by assumption) rfl | exact flat_miss (by omega) q1 rfl (by assumption)
   · exact r5.cast (by rfl)
   · exact Fz.snoc r6 (r9.e (by omega) (by omega))
   · simp only [m6, e6, intOf]; omega
 try simp only [decide_eq_false_iff_not, Int.not_lt] at hc1
 refine wp_exit ?_
 repeat (with_reducible refine then_exit ?_)
 refine exit_here ?_
 show Code.wp _ _ _ a5 w5
 refine wp_seq ?_
 refine region_St (bf := [0, 1]) (sp := [det _ 34 _, det _ 4 _]) [Ini.any _, Ini.any _, Ini.any _, Ini.any _, Ini.any _, io r5, iz r6, Ini.any _, Ini.any _, iz r9] mixed st5 (by kernel_rfl) ⟨trivial, trivial, trivial, trivial, trivial, r5, r6, trivial, trivial, r9, trivial⟩
  ⟨Ob.d fun c => r_move rfl (c.p e5),
  Ob.d fun c => r_assign rfl (c.n 0 rfl), trivial⟩ ?_
 intro a11 w11 τ11 st11 f11
 have e4 : get a11 4 = u := f11.v 1 rfl
 replace r5 := f11.io 5 rfl
 replace r6 := f11.iz 6 rfl
 replace r9 := f11.iz 9 rfl
 clear f11
 show Code.wp _ _ _ a11 w11
 refine wp_ret ?_
 repeat (first | with_reducible refine then_ret ?_ | with_reducible refine block_ret ?_)
 refine ret1 (fn := Try.f32) rfl st11.defers e4 ?_
 rw [List.take_of_length_le (by omega)] at q1
 exact ⟨_, ts, rfl, st11.ext0, ⟨r5.1, fun g_ h_ => (st11.bnd _ g_ (r5.2 g_ h_)).1⟩, r6.outo (i := 5) r5.2, q1⟩
set_option maxRecDepth 100000 in
theorem refSeq_c (F : Foot) (v : Value) (xs : List Tr) (w : World) (hS : SlT TrE w v xs) (hF : ∀ t ∈ xs, TrT F w t) (hP : sumL (xs.map wtF) ≤ 1000000) : Calls Try.prog 14 #[v] w (fun e w' => ∃ t' : Tr, e = .returned t'.v ∧ Ext none' w w' ∧ TrT ((Gn F w)) w' t' ∧ er t' = seqF (xs.map er)) := by
 refine enter (n := 14) Try.func14 rfl rfl (Nat.le_of_ble_eq_true rfl) ?_
 intro a0 τ0 ha st0
 have e0 : get a0 0 = v := ha 0 _ rfl
 clear ha
 have hle := hS.le
 have r9 : Fz (zTl (Gn F w) xs) τ0 w := TrT.inzs hF st0
 refine wp_seq ?_
 refine region_St (bf := [0]) (sp := [box _ _ 0 2 [(.int .i64 (0)), (.string ((⟨#[]⟩ : ByteArray))), (.bool (false)), (.slice none 0 0), (.int .i64 (0)), (.int .i64 (0)), (.bool (false)), (.slice none 0 0)]]) [Ini.any _, Ini.any _, Ini.any _, Ini.any _, Ini.any _, Ini.any _, Ini.any _, Ini.any _, Ini.any _, iz r9] mixed st0 (by kernel_rfl) ⟨trivial, trivial, trivial, trivial, trivial, trivial, trivial, trivial, trivial, r9, trivial⟩
  ⟨Ob.alloc rfl rfl rfl rfl Try.zeroValue25 rfl, trivial⟩ ?_
 intro a1 w1 τ1 st1 f1
 obtain ⟨b1x2, e2⟩ : ∃ b, get a1 2 = b := ⟨_, rfl⟩
 obtain ⟨e0, -⟩ := f1.ks [(0, _)] ⟨e0, trivial⟩
 have r0 : boxR 25 [(.int .i64 (0)), (.string ((⟨#[]⟩ : ByteArray))), (.bool (false)), (.slice none 0 0), (.int .i64 (0)), (.int .i64 (0)), (.bool (false)), (.slice none 0 0)] (τ1 0) b1x2 w1 := f1.rb 0 e2 rfl
 replace r9 := f1.iz 9 rfl
 clear f1
 show Code.wp _ _ _ a1 w1
 refine wp_seq ?_
 refine region_of_ops ?_
 refine ops_cut 2 (by kernel_rfl) ?_
 refine ops_St (bf := [0, 1]) (sp := [det _ 4 _, zown TrE 25 _ 1 5 (fun b : List Tr => b) (fun b : List Tr => b.map er = flatF 0 (xs.map er)) (fun b : List Tr => zTl (Gn F w) b)]) [ib r0, Ini.any _, Ini.any _, Ini.any _, Ini.any _, Ini.any _, Ini.any _, Ini.any _, Ini.any _, iz r9] st1 (by kernel_rfl) ⟨r0, trivial, trivial, trivial, trivial, trivial, trivial, trivial, trivial, r9, trivial⟩
  ⟨Ob.d fun c => r_move rfl (c.p e0),
  Ob.zo (xs := fun b : List Tr => b) (Ψ := fun b : List Tr => b.map er = flatF 0 (xs.map er)) (Φ := fun b : List Tr => zTl (Gn F w) b) fun {_ a_ _ _} c => ⟨_, _, (e_call2 rfl rfl Try.call32 rfl (c.n 0 rfl)), (kids_c _ 0 v xs _ (zl (c.iz 9 rfl) ((⟨hS, fun t_ h_ => (hF t_ h_).s⟩ : TlS w v xs).at (st1.ext.trans c.J.ext)).sl).sl (c.iz 9 rfl) (by omega)).mono (fun e w' ⟨v_, ts_, he_, hx_, ho_, ht_, hq_⟩ => ⟨v_, ts_, he_, hx_, ho_, hq_, c.tzo (tag := 1) st1 hx_ ho_ ht_⟩)⟩, trivial⟩ ?_
 intro a2 w2 τ2 st2 f2
 obtain ⟨b2x5, e5⟩ : ∃ b, get a2 5 = b := ⟨_, rfl⟩
 obtain ⟨e2, -⟩ := f2.ks [(2, _)] ⟨e2, trivial⟩
 obtain ⟨ts1_, hro2, hqts1_, hz2⟩ := f2.zo 1 e5 rfl
 replace r0 := f2.ib 0 rfl
 have r1 : ownR TrE 25 (ts1_) (τ2 1) b2x5 w2 := hro2
 replace r9 := f2.iz 9 rfl
 have r2 : Fz (zTl (Gn F w) ts1_) τ2 w2 := hz2
 clear f2
 refine only_mk ?_
 refine ops_St (bf := [0]) (sp := [det _ 3 _]) [ib r0, io r1, iz r2, Ini.any _, Ini.any _, Ini.any _, Ini.any _, Ini.any _, Ini.any _, iz r9] st2 (by kernel_rfl) ⟨r0, r1, r2, trivial, trivial, trivial, trivial, trivial, trivial, r9, trivial⟩
  ⟨Ob.d fun c => r_assign rfl (c.p e5), trivial⟩ ?_
 intro a3 w3 τ3 st3 f3
 obtain ⟨e2, -⟩ := f3.ks [(2, _)] ⟨e2, trivial⟩
 have e3 : get a3 3 = b2x5 := f3.v 0 rfl
 replace r0 := f3.ib 0 rfl
 replace r1 := f3.io 1 rfl
 replace r2 := f3.iz 2 rfl
 replace r9 := f3.iz 9 rfl
 clear f3
 obtain ⟨kv0, rfl⟩ := r1.isSl.sv
 show Code.wp _ _ _ a3 w3
 refine wp_seq ?_
 refine wp_seq ?_
 refine region_St (bf := [0, 1, 3]) (sp := [det _ 6 _, det _ 7 _, det _ 8 _]) [ib r0, io r1, iz r2, Ini.any _, Ini.any _, Ini.any _, Ini.any _, Ini.any _, Ini.any _, iz r9] mixed st3 (by kernel_rfl) ⟨r0, r1, r2, trivial, trivial, trivial, trivial, trivial, trivial, r9, trivial⟩
  ⟨Ob.d fun c => r_move rfl (c.p e3),
  Ob.d fun c => r_len rfl Try.underlying23 (c.n 0 rfl) r1.isSl,
  Ob.d fun c => r_eql rfl (c.n 1 rfl) rfl, trivial⟩ ?_
 intro a4 w4 τ4 st4 f4
 obtain ⟨e2, e3, -⟩ := f4.ks [(2, _), (3, _)] ⟨e2, e3, trivial⟩
 have e8 : get a4 8 = (.bool (decide ((ts1_.length : Int) = 1))) := f4.v 2 rfl
 replace r0 := f4.ib 0 rfl
 replace r1 := f4.io 1 rfl
 replace r2 := f4.iz 2 rfl
 replace r9 := f4.iz 9 rfl
 clear f4
 show Code.wp _ _ _ a4 w4
 refine wp_cond_split (t := decide ((ts1_.length : Int) = 1)) e8 (fun hc1 => ?_) (fun hc1 => ?_)
 · try simp only [decide_eq_true_eq] at hc1
   refine wp_seq ?_
   refine region_St (bf := [0, 1, 3, 7]) (sp := [det _ 9 _, det _ 10 _, det _ 11 _, box _ _ 0 2 [(.int .i64 ((nth ts1_ (0)).k)), (.string ((nth ts1_ (0)).ch)), (.bool ((nth ts1_ (0)).ng)), (nth ts1_ (0)).rv.v, (.int .i64 ((nth ts1_ (0)).mn)), (.int .i64 ((nth ts1_ (0)).mx)), (.bool ((nth ts1_ (0)).lz)), (nth ts1_ (0)).kv.v]]) [ib r0, io r1, iz r2, Ini.any _, Ini.any _, Ini.any _, Ini.any _, Ini.any _, Ini.any _, iz r9] mixed st4 (by kernel_rfl) ⟨r0, r1, r2, trivial, trivial, trivial, trivial, trivial, trivial, r9, trivial⟩
    ⟨Ob.d fun c => r_move rfl (c.p e3),
    Ob.d fun c => r_indexAddr rfl Try.underlying23 Try.sizeOf25 (c.n 0 rfl) r1.isSl rfl (by omega) (by omega),
    Ob.d fun c => r_loadN (vs := [(.int .i64 ((nth ts1_ (0)).k)), (.string ((nth ts1_ (0)).ch)), (.bool ((nth ts1_ (0)).ng)), (nth ts1_ (0)).rv.v, (.int .i64 ((nth ts1_ (0)).mn)), (.int .i64 ((nth ts1_ (0)).mx)), (.bool ((nth ts1_ (0)).lz)), (nth ts1_ (0)).kv.v]) rfl Try.isAgg25 Try.sizeOf25 (c.n 1 rfl) rfl (fun _ _ hj => ((c.io 1 rfl).1.sl).elem (nth_some (i := 0) (by omega) (by omega)) hj),
    Ob.storeBox (off := 0) (v := (.agg #[(.int .i64 ((nth ts1_ (0)).k)), (.string ((nth ts1_ (0)).ch)), (.bool ((nth ts1_ (0)).ng)), (nth ts1_ (0)).rv.v, (.int .i64 ((nth ts1_ (0)).mn)), (.int .i64 ((nth ts1_ (0)).mx)), (.bool ((nth ts1_ (0)).lz)), (nth ts1_ (0)).kv.v])) rfl rfl rfl rfl Try.sizeOf25 (Nat.le_of_ble_eq_true rfl) (by simp [Value.cells, Value.oneCell', Sv.v]) rfl (fun _ _ _ _ c => ⟨c.bp 0 rfl e2, c.ad ((c.p e2).trans r0.ptr) e2 rfl, (c.n 2 rfl)⟩), trivial⟩ ?_
   intro a5 w5 τ5 st5 f5
   obtain ⟨e2, e3, -⟩ := f5.ks [(2, _), (3, _)] ⟨e2, e3, trivial⟩
   replace r0 : boxR 25 [(.int .i64 ((nth ts1_ (0)).k)), (.string ((nth ts1_ (0)).ch)), (.bool ((nth ts1_ (0)).ng)), (nth ts1_ (0)).rv.v, (.int .i64 ((nth ts1_ (0)).mn)), (.int .i64 ((nth ts1_ (0)).mx)), (.bool ((nth ts1_ (0)).lz)), (nth ts1_ (0)).kv.v] (τ5 0) b1x2 w5 := f5.rb 3 e2 rfl
   replace r1 := f5.io 1 rfl
   replace r2 := f5.iz 2 rfl
   replace r9 := f5.iz 9 rfl
   clear f5
   show Code.wp _ _ _ a5 w5
   refine wp_ret ?_
   repeat (first | with_reducible refine then_ret ?_ | with_reducible refine block_ret ?_)
   refine ret1c (fn := Try.f14) rfl st5.defers e2 r0 Try.isAgg25 Try.sizeOf25 rfl ?_
   exact ⟨_, rfl, st5.ext0, (r2.e (by omega) (by omega)).out, seq_one hqts1_ (by omega)⟩
 try simp only [decide_eq_false_iff_not] at hc1
 refine wp_skip ?_
 show Code.wp _ _ _ a4 w4
 refine wp_seq ?_
 refine region_St (bf := [0, 1, 3]) (sp := [det _ 12 _, det _ 13 _, box _ _ 0 2 [(.int .i64 (0)), (.string ((⟨#[]⟩ : ByteArray))), (.bool (false)), (.slice none 0 0), (.int .i64 (0)), (.int .i64 (0)), (.bool (false)), kv0.v]]) [ib r0, io r1, iz r2, Ini.any _, Ini.any _, Ini.any _, Ini.any _, Ini.any _, Ini.any _, iz r9] mixed st4 (by kernel_rfl) ⟨r0, r1, r2, trivial, trivial, trivial, trivial, trivial, trivial, r9, trivial⟩
  ⟨Ob.d fun c => r_move rfl (c.p e3),
  Ob.d fun c => r_build (cells := #[(.int .i64 (0)), (.string ((⟨#[]⟩ : ByteArray))), (.bool (false)), (.slice none 0 0), (.int .i64 (0)), (.int .i64 (0)), (.bool (false)), kv0.v]) rfl Try.underlying25 Try.zeroValue25 (pl := #[(0, 1), (1, 1), (2, 1), (3, 1), (4, 1), (5, 1), (6, 1), (7, 1)]) (fun w_ => by simp [Try.sizeOf22, Try.sizeOf23, Try.sizeOf3, Try.sizeOf4, Try.sizeOf9]) (fill2 rfl (c.n 0 rfl) rfl),
  Ob.storeBox (off := 0) (v := (.agg #[(.int .i64 (0)), (.string ((⟨#[]⟩ : ByteArray))), (.bool (false)), (.slice none 0 0), (.int .i64 (0)), (.int .i64 (0)), (.bool (false)), kv0.v])) rfl rfl rfl rfl Try.sizeOf25 (Nat.le_of_ble_eq_true rfl) (by simp [Value.cells, Value.oneCell', Sv.v]) rfl (fun _ _ _ _ c => ⟨c.bp 0 rfl e2, c.ad ((c.p e2).trans r0.ptr) e2 rfl, (c.n 1 rfl)⟩), trivial⟩ ?_
 intro a6 w6 τ6 st6 f6
 obtain ⟨e2, -⟩ := f6.ks [(2, _)] ⟨e2, trivial⟩
 replace r0 : boxR 25 [(.int .i64 (0)), (.string ((⟨#[]⟩ : ByteArray))), (.bool (false)), (.slice none 0 0), (.int .i64 (0)), (.int .i64 (0)), (.bool (false)), kv0.v] (τ6 0) b1x2 w6 := f6.rb 2 e2 rfl
 replace r1 := f6.io 1 rfl
 replace r2 := f6.iz 2 rfl
 replace r9 := f6.iz 9 rfl
 clear f6
 show Code.wp _ _ _ a6 w6
 refine wp_ret ?_
 repeat (first | with_reducible refine then_ret ?_ | with_reducible refine block_ret ?_)
 refine ret1c (fn := Try.f14) rfl st6.defers e2 r0 Try.isAgg25 Try.sizeOf25 rfl ?_
 exact ⟨⟨0, ⟨#[]⟩, false, Sv.nil, [], 0, 0, false, kv0, ts1_⟩, rfl, st6.ext0, mk_out r1 (fun g h => .inr (st6.bnd _ _ h).1) r2.outs, by rw [er_mk]; exact seq_many hqts1_ (by omega)⟩
set_option maxRecDepth 100000 in
theorem refAlt_c (F : Foot) (v : Value) (xs : List Tr) (w : World) (hS : SlT TrE w v xs) (hF : ∀ t ∈ xs, TrT F w t) (hP : sumL (xs.map wtF) ≤ 1000000) : Calls Try.prog 16 #[v] w (fun e w' => ∃ t' : Tr, e = .returned t'.v ∧ Ext none' w w' ∧ TrT ((Gn F w)) w' t' ∧ er t' = altF (xs.map er)) := by
 refine enter (n := 18) Try.func16 rfl rfl (Nat.le_of_ble_eq_true rfl) ?_
 intro a0 τ0 ha st0
 have e0 : get a0 0 = v := ha 0 _ rfl
 clear ha
 have hle := hS.le
 have r9 : Fz (zTl (Gn F w) xs) τ0 w := TrT.inzs hF st0
 refine wp_seq ?_
 refine region_St (bf := [0]) (sp := [box _ _ 0 2 [(.int .i64 (0)), (.string ((⟨#[]⟩ : ByteArray))), (.bool (false)), (.slice none 0 0), (.int .i64 (0)), (.int .i64 (0)), (.bool (false)), (.slice none 0 0)]]) [Ini.any _, Ini.any _, Ini.any _, Ini.any _, Ini.any _, Ini.any _, Ini.any _, Ini.any _, Ini.any _, iz r9] mixed st0 (by kernel_rfl) ⟨trivial, trivial, trivial, trivial, trivial, trivial, trivial, trivial, trivial, r9, trivial⟩
  ⟨Ob.alloc rfl rfl rfl rfl Try.zeroValue25 rfl, trivial⟩ ?_
 intro a1 w1 τ1 st1 f1
 obtain ⟨b1x2, e2⟩ : ∃ b, get a1 2 = b := ⟨_, rfl⟩
 obtain ⟨e0, -⟩ := f1.ks [(0, _)] ⟨e0, trivial⟩
 have r0 : boxR 25 [(.int .i64 (0)), (.string ((⟨#[]⟩ : ByteArray))), (.bool (false)), (.slice none 0 0), (.int .i64 (0)), (.int .i64 (0)), (.bool (false)), (.slice none 0 0)] (τ1 0) b1x2 w1 := f1.rb 0 e2 rfl
 replace r9 := f1.iz 9 rfl
 clear f1
 show Code.wp _ _ _ a1 w1
 refine wp_seq ?_
 refine region_of_ops ?_
 refine ops_cut 2 (by kernel_rfl) ?_
 refine ops_St (bf := [0, 1]) (sp := [det _ 4 _, zown TrE 25 _ 1 5 (fun b : List Tr => b) (fun b : List Tr => b.map er = flatF 1 (xs.map er)) (fun b : List Tr => zTl (Gn F w) b)]) [ib r0, Ini.any _, Ini.any _, Ini.any _, Ini.any _, Ini.any _, Ini.any _, Ini.any _, Ini.any _, iz r9] st1 (by kernel_rfl) ⟨r0, trivial, trivial, trivial, trivial, trivial, trivial, trivial, trivial, r9, trivial⟩
  ⟨Ob.d fun c => r_move rfl (c.p e0),
  Ob.zo (xs := fun b : List Tr => b) (Ψ := fun b : List Tr => b.map er = flatF 1 (xs.map er)) (Φ := fun b : List Tr => zTl (Gn F w) b) fun {_ a_ _ _} c => ⟨_, _, (e_call2 rfl rfl Try.call32 rfl (c.n 0 rfl)), (kids_c _ 1 v xs _ (zl (c.iz 9 rfl) ((⟨hS, fun t_ h_ => (hF t_ h_).s⟩ : TlS w v xs).at (st1.ext.trans c.J.ext)).sl).sl (c.iz 9 rfl) (by omega)).mono (fun e w' ⟨v_, ts_, he_, hx_, ho_, ht_, hq_⟩ => ⟨v_, ts_, he_, hx_, ho_, hq_, c.tzo (tag := 1) st1 hx_ ho_ ht_⟩)⟩, trivial⟩ ?_
 intro a2 w2 τ2 st2 f2
 obtain ⟨b2x5, e5⟩ : ∃ b, get a2 5 = b := ⟨_, rfl⟩
 obtain ⟨e2, -⟩ := f2.ks [(2, _)] ⟨e2, trivial⟩
 obtain ⟨ts1_, hro2, hqts1_, hz2⟩ := f2.zo 1 e5 rfl
 replace r0 := f2.ib 0 rfl
 have r1 : ownR TrE 25 (ts1_) (τ2 1) b2x5 w2 := hro2
 replace r9 := f2.iz 9 rfl
 have r2 : Fz (zTl (Gn F w) ts1_) τ2 w2 := hz2
 clear f2
 refine only_mk ?_
 refine ops_St (bf := [0]) (sp := [det _ 3 _]) [ib r0, io r1, iz r2, Ini.any _, Ini.any _, Ini.any _, Ini.any _, Ini.any _, Ini.any _, iz r9] st2 (by kernel_rfl) ⟨r0, r1, r2, trivial, trivial, trivial, trivial, trivial, trivial, r9, trivial⟩
  ⟨Ob.d fun c => r_assign rfl (c.p e5), trivial⟩ ?_
 intro a3 w3 τ3 st3 f3
 obtain ⟨e2, -⟩ := f3.ks [(2, _)] ⟨e2, trivial⟩
 have e3 : get a3 3 = b2x5 := f3.v 0 rfl
 replace r0 := f3.ib 0 rfl
 replace r1 := f3.io 1 rfl
 replace r2 := f3.iz 2 rfl
 replace r9 := f3.iz 9 rfl
 clear f3
 obtain ⟨kv0, rfl⟩ := r1.isSl.sv
 show Code.wp _ _ _ a3 w3
 refine wp_seq ?_
 refine wp_seq ?_
 refine region_St (bf := [0, 1, 3]) (sp := [det _ 6 _, det _ 7 _, det _ 8 _]) [ib r0, io r1, iz r2, Ini.any _, Ini.any _, Ini.any _, Ini.any _, Ini.any _, Ini.any _, iz r9] mixed st3 (by kernel_rfl) ⟨r0, r1, r2, trivial, trivial, trivial, trivial, trivial, trivial, r9, trivial⟩
  ⟨Ob.d fun c => r_move rfl (c.p e3),
  Ob.d fun c => r_len rfl Try.underlying23 (c.n 0 rfl) r1.isSl,
  Ob.d fun c => r_eql rfl (c.n 1 rfl) rfl, trivial⟩ ?_
 intro a4 w4 τ4 st4 f4
 obtain ⟨e2, e3, -⟩ := f4.ks [(2, _), (3, _)] ⟨e2, e3, trivial⟩
 have e8 : get a4 8 = (.bool (decide ((ts1_.length : Int) = 0))) := f4.v 2 rfl
 replace r0 := f4.ib 0 rfl
 replace r1 := f4.io 1 rfl
 replace r2 := f4.iz 2 rfl
 replace r9 := f4.iz 9 rfl
 clear f4
 show Code.wp _ _ _ a4 w4
 refine wp_cond_split (t := decide ((ts1_.length : Int) = 0)) e8 (fun hc1 => ?_) (fun hc1 => ?_)
 · try simp only [decide_eq_true_eq] at hc1
   refine wp_seq ?_
   refine region_St (bf := [0, 1]) (sp := [det _ 9 _, box _ _ 0 2 [(.int .i64 (0)), (.string ((⟨#[]⟩ : ByteArray))), (.bool (false)), (.slice none 0 0), (.int .i64 (0)), (.int .i64 (0)), (.bool (false)), (.slice none 0 0)]]) [ib r0, io r1, iz r2, Ini.any _, Ini.any _, Ini.any _, Ini.any _, Ini.any _, Ini.any _, iz r9] mixed st4 (by kernel_rfl) ⟨r0, r1, r2, trivial, trivial, trivial, trivial, trivial, trivial, r9, trivial⟩
    ⟨Ob.d fun c => r_build (cells := #[(.int .i64 (0)), (.string ((⟨#[]⟩ : ByteArray))), (.bool (false)), (.slice none 0 0), (.int .i64 (0)), (.int .i64 (0)), (.bool (false)), (.slice none 0 0)]) rfl Try.underlying25 Try.zeroValue25 (pl := #[(0, 1), (1, 1), (2, 1), (3, 1), (4, 1), (5, 1), (6, 1), (7, 1)]) (fun w_ => by simp [Try.sizeOf22, Try.sizeOf23, Try.sizeOf3, Try.sizeOf4, Try.sizeOf9]) (fill1 rfl rfl),
    Ob.storeBox (off := 0) (v := (.agg #[(.int .i64 (0)), (.string ((⟨#[]⟩ : ByteArray))), (.bool (false)), (.slice none 0 0), (.int .i64 (0)), (.int .i64 (0)), (.bool (false)), (.slice none 0 0)])) rfl rfl rfl rfl Try.sizeOf25 (Nat.le_of_ble_eq_true rfl) (by simp [Value.cells, Value.oneCell', Sv.v]) rfl (fun _ _ _ _ c => ⟨c.bp 0 rfl e2, c.ad ((c.p e2).trans r0.ptr) e2 rfl, (c.n 0 rfl)⟩), trivial⟩ ?_
   intro a5 w5 τ5 st5 f5
   obtain ⟨e2, e3, -⟩ := f5.ks [(2, _), (3, _)] ⟨e2, e3, trivial⟩
   replace r0 : boxR 25 [(.int .i64 (0)), (.string ((⟨#[]⟩ : ByteArray))), (.bool (false)), (.slice none 0 0), (.int .i64 (0)), (.int .i64 (0)), (.bool (false)), (.slice none 0 0)] (τ5 0) b1x2 w5 := f5.rb 1 e2 rfl
   replace r1 := f5.io 1 rfl
   replace r2 := f5.iz 2 rfl
   replace r9 := f5.iz 9 rfl
   clear f5
   show Code.wp _ _ _ a5 w5
   refine wp_ret ?_
   repeat (first | with_reducible refine then_ret ?_ | with_reducible refine block_ret ?_)
   refine ret1c (fn := Try.f16) rfl st5.defers e2 r0 Try.isAgg25 Try.sizeOf25 rfl ?_
   exact ⟨mkT 0 [], rfl, st5.ext0, leafTr _ _ _ _ _ _ _ _, alt_none hqts1_ (by omega)⟩
 try simp only [decide_eq_false_iff_not] at hc1
 refine wp_skip ?_
 show Code.wp _ _ _ a4 w4
 refine wp_seq ?_
 refine wp_seq ?_
 refine region_St (bf := [0, 1, 3]) (sp := [det _ 10 _, det _ 11 _, det _ 12 _]) [ib r0, io r1, iz r2, Ini.any _, Ini.any _, Ini.any _, Ini.any _, Ini.any _, Ini.any _, iz r9] mixed st4 (by kernel_rfl) ⟨r0, r1, r2, trivial, trivial, trivial, trivial, trivial, trivial, r9, trivial⟩
  ⟨Ob.d fun c => r_move rfl (c.p e3),
  Ob.d fun c => r_len rfl Try.underlying23 (c.n 0 rfl) r1.isSl,
  Ob.d fun c => r_eql rfl (c.n 1 rfl) rfl, trivial⟩ ?_
 intro a6 w6 τ6 st6 f6
 obtain ⟨e2, e3, -⟩ := f6.ks [(2, _), (3, _)] ⟨e2, e3, trivial⟩
 have e12 : get a6 12 = (.bool (decide ((ts1_.length : Int) = 1))) := f6.v 2 rfl
 replace r0 := f6.ib 0 rfl
 replace r1 := f6.io 1 rfl
 replace r2 := f6.iz 2 rfl
 replace r9 := f6.iz 9 rfl
 clear f6
 show Code.wp _ _ _ a6 w6
 refine wp_cond_split (t := decide ((ts1_.length : Int) = 1)) e12 (fun hc2 => ?_) (fun hc2 => ?_)
 · try simp only [decide_eq_true_eq] at hc2
   refine wp_seq ?_
   refine region_St (bf := [0, 1, 3, 7]) (sp := [det _ 13 _, det _ 14 _, det _ 15 _, box _ _ 0 2 [(.int .i64 ((nth ts1_ (0)).k)), (.string ((nth ts1_ (0)).ch)), (.bool ((nth ts1_ (0)).ng)), (nth ts1_ (0)).rv.v, (.int .i64 ((nth ts1_ (0)).mn)), (.int .i64 ((nth ts1_ (0)).mx)), (.bool ((nth ts1_ (0)).lz)), (nth ts1_ (0)).kv.v]]) [ib r0, io r1, iz r2, Ini.any _, Ini.any _, Ini.any _, Ini.any _, Ini.any _, Ini.any _, iz r9] mixed st6 (by kernel_rfl) ⟨r0, r1, r2, trivial, trivial, trivial, trivial, trivial, trivial, r9, trivial⟩
    ⟨Ob.d fun c => r_move rfl (c.p e3),
    Ob.d fun c => r_indexAddr rfl Try.underlying23 Try.sizeOf25 (c.n 0 rfl) r1.isSl rfl (by omega) (by omega),
    Ob.d fun c => r_loadN (vs := [(.int .i64 ((nth ts1_ (0)).k)), (.string ((nth ts1_ (0)).ch)), (.bool ((nth ts1_ (0)).ng)), (nth ts1_ (0)).rv.v, (.int .i64 ((nth ts1_ (0)).mn)), (.int .i64 ((nth ts1_ (0)).mx)), (.bool ((nth ts1_ (0)).lz)), (nth ts1_ (0)).kv.v]) rfl Try.isAgg25 Try.sizeOf25 (c.n 1 rfl) rfl (fun _ _ hj => ((c.io 1 rfl).1.sl).elem (nth_some (i := 0) (by omega) (by omega)) hj),
    Ob.storeBox (off := 0) (v := (.agg #[(.int .i64 ((nth ts1_ (0)).k)), (.string ((nth ts1_ (0)).ch)), (.bool ((nth ts1_ (0)).ng)), (nth ts1_ (0)).rv.v, (.int .i64 ((nth ts1_ (0)).mn)), (.int .i64 ((nth ts1_ (0)).mx)), (.bool ((nth ts1_ (0)).lz)), (nth ts1_ (0)).kv.v])) rfl rfl rfl rfl Try.sizeOf25 (Nat.le_of_ble_eq_true rfl) (by simp [Value.cells, Value.oneCell', Sv.v]) rfl (fun _ _ _ _ c => ⟨c.bp 0 rfl e2, c.ad ((c.p e2).trans r0.ptr) e2 rfl, (c.n 2 rfl)⟩), trivial⟩ ?_
   intro a7 w7 τ7 st7 f7
   obtain ⟨e2, e3, -⟩ := f7.ks [(2, _), (3, _)] ⟨e2, e3, trivial⟩
   replace r0 : boxR 25 [(.int .i64 ((nth ts1_ (0)).k)), (.string ((nth ts1_ (0)).ch)), (.bool ((nth ts1_ (0)).ng)), (nth ts1_ (0)).rv.v, (.int .i64 ((nth ts1_ (0)).mn)), (.int .i64 ((nth ts1_ (0)).mx)), (.bool ((nth ts1_ (0)).lz)), (nth ts1_ (0)).kv.v] (τ7 0) b1x2 w7 := f7.rb 3 e2 rfl
   replace r1 := f7.io 1 rfl
   replace r2 := f7.iz 2 rfl
   replace r9 := f7.iz 9 rfl
   clear f7
   show Code.wp _ _ _ a7 w7
   refine wp_ret ?_
   repeat (first | with_reducible refine then_ret ?_ | with_reducible refine block_ret ?_)
   refine ret1c (fn := Try.f16) rfl st7.defers e2 r0 Try.isAgg25 Try.sizeOf25 rfl ?_
   exact ⟨_, rfl, st7.ext0, (r2.e (by omega) (by omega)).out, alt_one hqts1_ (by omega)⟩
 try simp only [decide_eq_false_iff_not] at hc2
 refine wp_skip ?_
 show Code.wp _ _ _ a6 w6
 refine wp_seq ?_
 refine region_St (bf := [0, 1, 3]) (sp := [det _ 16 _, det _ 17 _, box _ _ 0 2 [(.int .i64 (1)), (.string ((⟨#[]⟩ : ByteArray))), (.bool (false)), (.slice none 0 0), (.int .i64 (0)), (.int .i64 (0)), (.bool (false)), kv0.v]]) [ib r0, io r1, iz r2, Ini.any _, Ini.any _, Ini.any _, Ini.any _, Ini.any _, Ini.any _, iz r9] mixed st6 (by kernel_rfl) ⟨r0, r1, r2, trivial, trivial, trivial, trivial, trivial, trivial, r9, trivial⟩
  ⟨Ob.d fun c => r_move rfl (c.p e3),
  Ob.d fun c => r_build (cells := #[(.int .i64 (1)), (.string ((⟨#[]⟩ : ByteArray))), (.bool (false)), (.slice none 0 0), (.int .i64 (0)), (.int .i64 (0)), (.bool (false)), kv0.v]) rfl Try.underlying25 Try.zeroValue25 (pl := #[(0, 1), (1, 1), (2, 1), (3, 1), (4, 1), (5, 1), (6, 1), (7, 1)]) (fun w_ => by simp [Try.sizeOf22, Try.sizeOf23, Try.sizeOf3, Try.sizeOf4, Try.sizeOf9]) (fill2 rfl (c.n 0 rfl) rfl),
  Ob.storeBox (off := 0) (v := (.agg #[(.int .i64 (1)), (.string ((⟨#[]⟩ : ByteArray))), (.bool (false)), (.slice none 0 0), (.int .i64 (0)), (.int .i64 (0)), (.bool (false)), kv0.v])) rfl rfl rfl rfl Try.sizeOf25 (Nat.le_of_ble_eq_true rfl) (by simp [Value.cells, Value.oneCell', Sv.v]) rfl (fun _ _ _ _ c => ⟨c.bp 0 rfl e2, c.ad ((c.p e2).trans r0.ptr) e2 rfl, (c.n 1 rfl)⟩), trivial⟩ ?_
 intro a8 w8 τ8 st8 f8
 obtain ⟨e2, -⟩ := f8.ks [(2, _)] ⟨e2, trivial⟩
 replace r0 : boxR 25 [(.int .i64 (1)), (.string ((⟨#[]⟩ : ByteArray))), (.bool (false)), (.slice none 0 0), (.int .i64 (0)), (.int .i64 (0)), (.bool (false)), kv0.v] (τ8 0) b1x2 w8 := f8.rb 2 e2 rfl
 replace r1 := f8.io 1 rfl
 replace r2 := f8.iz 2 rfl
 replace r9 := f8.iz 9 rfl
 clear f8
 show Code.wp _ _ _ a8 w8
 refine wp_ret ?_
 repeat (first | with_reducible refine then_ret ?_ | with_reducible refine block_ret ?_)
 refine ret1c (fn := Try.f16) rfl st8.defers e2 r0 Try.isAgg25 Try.sizeOf25 rfl ?_
 exact ⟨⟨1, ⟨#[]⟩, false, Sv.nil, [], 0, 0, false, kv0, ts1_⟩, rfl, st8.ext0, mk_out r1 (fun g h => .inr (st8.bnd _ _ h).1) r2.outs, by rw [er_mk]; exact alt_many hqts1_ (by omega) (by omega)⟩
end B
end Go.Proofs.Ytocmchlhbniloaa
namespace Go.Proofs.Ytocmchlhbniloaa
namespace B
open Go.RowKit
open Srt
set_option maxRecDepth 100000 in
theorem some1_c (t : Tr) (p : Addr) (v : Value) (ks : List Int) (w : World) (hc : w.cell? p = some v) (hS : SlT IntE w v ks) : Calls Try.prog 61 #[(.agg #[(.int .i64 (t.k)), (.string (t.ch)), (.bool (t.ng)), t.rv.v, (.int .i64 (t.mn)), (.int .i64 (t.mx)), (.bool (t.lz)), t.kv.v]), (.pointer (some p))] w (fun e w' => e = .returned (.bool (ks.any fun y => decide (t.k = y))) ∧ Ext none' w w') := by
 refine enter (n := 8) Try.func61 rfl rfl (Nat.le_of_ble_eq_true rfl) ?_
 intro a0 τ0 ha st0
 have e0 : get a0 0 = (.agg #[(.int .i64 (t.k)), (.string (t.ch)), (.bool (t.ng)), t.rv.v, (.int .i64 (t.mn)), (.int .i64 (t.mx)), (.bool (t.lz)), t.kv.v]) := ha 0 _ rfl
 have e1 : get a0 1 = (.pointer (some p)) := ha 1 _ rfl
 clear ha
 refine wp_seq ?_
 refine region_St (bf := [0, 0]) (sp := [box _ _ 0 2 [(.int .i64 (t.k)), (.string (t.ch)), (.bool (t.ng)), t.rv.v, (.int .i64 (t.mn)), (.int .i64 (t.mx)), (.bool (t.lz)), t.kv.v], det _ 3 _]) [] mixed st0 (by kernel_rfl) trivial
  ⟨Ob.box (v := (.agg #[(.int .i64 (t.k)), (.string (t.ch)), (.bool (t.ng)), t.rv.v, (.int .i64 (t.mn)), (.int .i64 (t.mx)), (.bool (t.lz)), t.kv.v])) rfl rfl rfl rfl rfl (fun _ _ _ _ c => (c.p e0)),
  Ob.d fun c => r_assign rfl rfl, trivial⟩ ?_
 intro a1 w1 τ1 st1 f1
 obtain ⟨b1x2, e2⟩ : ∃ b, get a1 2 = b := ⟨_, rfl⟩
 obtain ⟨e1, -⟩ := f1.ks [(1, _)] ⟨e1, trivial⟩
 have e3 : get a1 3 = (.bool (false)) := f1.v 1 rfl
 have r0 : boxR 25 [(.int .i64 (t.k)), (.string (t.ch)), (.bool (t.ng)), t.rv.v, (.int .i64 (t.mn)), (.int .i64 (t.mx)), (.bool (t.lz)), t.kv.v] (τ1 0) b1x2 w1 := f1.rb 0 e2 rfl
 clear f1
 show Code.wp _ _ _ a1 w1
 refine wp_seq ?_
 refine region_St (bf := [0, 0, 2, 7, 15]) (sp := [det _ 4 _, det _ 5 _, det _ 6 _, det _ 7 _, det _ 3 _]) [ib r0] mixed st1 (by kernel_rfl) ⟨r0, trivial⟩
  ⟨Ob.d fun c => r_load1 rfl Try.isAgg70 (c.p e1) ((st1.ext.trans c.J.ext).cellAt hc),
  Ob.d fun c => r_fieldAddr rfl Try.underlying25 rfl rfl Try.sizeOf3 ((c.p e2).trans r0.ptr),
  Ob.d fun c => r_load1 rfl Try.isAgg3 (c.n 1 rfl) ((c.ib 0 rfl).cell (j := 0) rfl),
  Ob.c fun c => ⟨_, _, (e_call2 rfl rfl Try.call62 (c.n 0 rfl) (c.n 2 rfl)), hasInt_c v ks t.k _ (hS.at (st1.ext.trans c.J.ext))⟩,
  Ob.d fun c => r_assign rfl (c.n 3 rfl), trivial⟩ ?_
 intro a2 w2 τ2 st2 f2
 have e3 : get a2 3 = (.bool ((ks).any fun y => decide (t.k = y))) := f2.v 4 rfl
 clear f2
 show Code.wp _ _ _ a2 w2
 refine wp_ret ?_
 repeat (first | with_reducible refine then_ret ?_ | with_reducible refine block_ret ?_)
 refine ret1 (fn := Try.f61) rfl st2.defers e3 ?_
 exact ⟨rfl, st2.ext0⟩
set_option maxRecDepth 100000 in
theorem ixFn_c (v cap : Value) (ts : List Tr) (q : Tr → Bool) (w : World) (hf : ∀ t ∈ ts, ∀ w2 : World, Ext none' w w2 → Calls Try.prog 61 #[t.v, cap] w2 (fun e w3 => e = .returned (.bool (q t)) ∧ Ext none' w2 w3)) (hS : SlT TrE w v ts) : Calls Try.prog 66 #[v, (.func (.func 61) #[] #[cap])] w (fun e w' => e = .returned (.int .i64 (ixF q ts)) ∧ Ext none' w w') := by
 refine enter (n := 19) Try.func66 rfl rfl (Nat.le_of_ble_eq_true rfl) ?_
 intro a0 τ0 ha st0
 have e0 : get a0 0 = v := ha 0 _ rfl
 have e1 : get a0 1 = (.func (.func 61) #[] #[cap]) := ha 1 _ rfl
 clear ha
 have hle := hS.le
 refine wp_seq ?_
 refine region_St (bf := [0]) (sp := [det _ 4 _]) [] mixed st0 (by kernel_rfl) trivial
  ⟨Ob.d fun c => r_assign rfl rfl, trivial⟩ ?_
 intro a1 w1 τ1 st1 f1
 obtain ⟨e0, e1, -⟩ := f1.ks [(0, _), (1, _)] ⟨e0, e1, trivial⟩
 have e4 : get a1 4 = (.int .i64 (0)) := f1.v 0 rfl
 clear f1
 show Code.wp _ _ _ a1 w1
 refine wp_seq ?_
 refine wp_seq ?_
 refine region_St (bf := [0, 1, 0]) (sp := [det _ 6 _, det _ 7 _, det _ 8 _]) [] mixed st1 (by kernel_rfl) trivial
  ⟨Ob.d fun c => r_move rfl (c.p e0),
  Ob.d fun c => r_len rfl Try.underlying23 (c.n 0 rfl) hS.sl,
  Ob.d fun c => r_move rfl rfl, trivial⟩ ?_
 intro a2 w2 τ2 st2 f2
 obtain ⟨e0, e1, e4, -⟩ := f2.ks [(0, _), (1, _), (4, _)] ⟨e0, e1, e4, trivial⟩
 have e7 : get a2 7 = (.int .i64 ((ts.length : Int))) := f2.v 1 rfl
 have e8 : get a2 8 = (.int .i64 (0)) := f2.v 2 rfl
 clear f2
 show Code.wp _ _ _ a2 w2
 refine wp_block ?_
 refine wp_loop (fun a_ w_ => ∃ (k : Nat) (τ : Nat → Foot), (k ≤ ts.length) ∧
      (∀ y ∈ ts.take k, q y = false) ∧
      St (Nw w) w 19 a_ w_ τ ∧
      get a_ 8 = (.int .i64 ((k : Int))) ∧
      get a_ 0 = v ∧
      get a_ 1 = (.func (.func 61) #[] #[cap]) ∧
      get a_ 7 = (.int .i64 ((ts.length : Int)))) (fun a_ _ => ts.length - (intOf (get a_ 8)).toNat) ?_ ?_
 · refine ⟨0, τ2, ?_, ?_, st2, (e8.trans (int_eq (by omega))), e0, e1, e7⟩
   · omega
   · simp
 intro a3 w3 hI
 obtain ⟨k, τ3, q0, q1, st3, e8, e0, e1, e7⟩ := hI
 have m8 := e8
 refine wp_seq ?_
 refine region_St (bf := [0]) (sp := [det _ 9 _]) [] mixed st3 (by kernel_rfl) trivial
  ⟨Ob.d fun c => r_lss rfl (c.p e8) (c.p e7), trivial⟩ ?_
 intro a4 w4 τ4 st4 f4
 obtain ⟨e0, e1, e7, e8, -⟩ := f4.ks [(0, _), (1, _), (7, _), (8, _)] ⟨e0, e1, e7, e8, trivial⟩
 have e9 : get a4 9 = (.bool (decide ((k : Int) < (ts.length : Int)))) := f4.v 0 rfl
 clear f4
 show Code.wp _ _ _ a4 w4
 refine wp_seq ?_
 refine wp_cond_split (t := decide ((k : Int) < (ts.length : Int))) e9 (fun hc1 => ?_) (fun hc1 => ?_)
 · try simp only [decide_eq_true_eq] at hc1
   refine wp_skip ?_
   show Code.wp _ _ _ a4 w4
   refine wp_seq ?_
   refine wp_block ?_
   refine wp_seq ?_
   refine region_St (bf := [0, 1]) (sp := [det _ 10 _, det _ 5 _]) [] mixed st4 (by kernel_rfl) trivial
    ⟨Ob.d fun c => r_move rfl (c.p e8),
    Ob.d fun c => r_assign rfl (c.n 0 rfl), trivial⟩ ?_
   intro a5 w5 τ5 st5 f5
   obtain ⟨e0, e1, e7, e8, e9, -⟩ := f5.ks [(0, _), (1, _), (7, _), (8, _), (9, _)] ⟨e0, e1, e7, e8, e9, trivial⟩
   have e5 : get a5 5 = (.int .i64 ((k : Int))) := f5.v 1 rfl
   clear f5
   show Code.wp _ _ _ a5 w5
   refine wp_seq ?_
   refine region_St (bf := [0, 0, 0, 6, 14, 31]) (sp := [det _ 11 _, det _ 12 _, det _ 13 _, det _ 14 _, det _ 15 _, det _ 16 _]) [] mixed st5 (by kernel_rfl) trivial
    ⟨Ob.d fun c => r_move rfl (c.p e1),
    Ob.d fun c => r_move rfl (c.p e0),
    Ob.d fun c => r_move rfl (c.p e5),
    Ob.d fun c => r_indexAddr rfl Try.underlying23 Try.sizeOf25 (c.n 1 rfl) hS.sl (c.n 2 rfl) (by omega) (by omega),
    Ob.d fun c => r_loadN (vs := [(.int .i64 ((nth ts ((k : Int))).k)), (.string ((nth ts ((k : Int))).ch)), (.bool ((nth ts ((k : Int))).ng)), (nth ts ((k : Int))).rv.v, (.int .i64 ((nth ts ((k : Int))).mn)), (.int .i64 ((nth ts ((k : Int))).mx)), (.bool ((nth ts ((k : Int))).lz)), (nth ts ((k : Int))).kv.v]) rfl Try.isAgg25 Try.sizeOf25 (c.n 3 rfl) rfl (fun _ _ hj => ((hS.at (st5.ext.trans c.J.ext))).elem (nth_some (i := (k : Int)) (by omega) (by omega)) hj),
    Ob.c fun c => ⟨_, _, (e_cap1_1 rfl (c.n 0 rfl) Try.call61 (c.n 4 rfl)), hf _ (nth_memI (by omega) (by omega)) _ (st5.ext.trans c.J.ext).fresh⟩, trivial⟩ ?_
   intro a6 w6 τ6 st6 f6
   obtain ⟨e0, e1, e5, e7, e8, e9, -⟩ := f6.ks [(0, _), (1, _), (5, _), (7, _), (8, _), (9, _)] ⟨e0, e1, e5, e7, e8, e9, trivial⟩
   have e16 : get a6 16 = (.bool (q (nth ts ((k : Int))))) := f6.v 5 rfl
   clear f6
   show Code.wp _ _ _ a6 w6
   refine wp_cond_split (t := q (nth ts ((k : Int)))) e16 (fun hc2 => ?_) (fun hc2 => ?_)
   · have hd2 := hc2; skip
     refine wp_seq ?_
     refine region_St (bf := [0, 1]) (sp := [det _ 17 _, det _ 4 _]) [] mixed st6 (by kernel_rfl) trivial
      ⟨Ob.d fun c => r_move rfl (c.p e5),
      Ob.d fun c => r_assign rfl (c.n 0 rfl), trivial⟩ ?_
     intro a7 w7 τ7 st7 f7
     obtain ⟨e0, e1, e5, e7, e8, e9, e16, -⟩ := f7.ks [(0, _), (1, _), (5, _), (7, _), (8, _), (9, _), (16, _)] ⟨e0, e1, e5, e7, e8, e9, e16, trivial⟩
     have e4 : get a7 4 = (.int .i64 ((k : Int))) := f7.v 1 rfl
     clear f7
     show Code.wp _ _ _ a7 w7
     refine wp_ret ?_
     repeat (first | with_reducible refine then_ret ?_ | with_reducible refine block_ret ?_)
     refine ret1 (fn := Try.f66) rfl st7.defers e4 ?_
     exact ⟨congrArg _ (int_eq (by first | exact (ix_hit (f := q) (by omega) q1 (by assumption)).symm | exact (ix_miss (f := q) (k := k) (by omega) q1).symm)), st7.ext0⟩
   have hd2 := hc2; skip
   refine wp_skip ?_
   show _
   show Code.wp _ _ _ a6 w6
   refine region_St (bf := [0, 1]) (sp := [det _ 18 _, det _ 8 _]) [] mixed st6 (by kernel_rfl) trivial
    ⟨Ob.d fun c => r_add rfl (c.p e8) rfl (by omega),
    Ob.d fun c => r_move rfl (c.n 0 rfl), trivial⟩ ?_
   intro a8 w8 τ8 st8 f8
   obtain ⟨e0, e1, e5, e7, e9, e16, -⟩ := f8.ks [(0, _), (1, _), (5, _), (7, _), (9, _), (16, _)] ⟨e0, e1, e5, e7, e9, e16, trivial⟩
   have e8 : get a8 8 = (.int .i64 ((k : Int) + 1)) := f8.v 1 rfl
   clear f8
   refine ⟨⟨k + 1, τ8, ?_, ?_, st8, (e8.trans (int_eq (by omega))), e0, e1, e7⟩, ?_⟩
   · omega
   · exact ix_step (f := q) (by omega) q1 (by assumption)
   · simp only [m8, e8, intOf]; omega
 try simp only [decide_eq_false_iff_not, Int.not_lt] at hc1
 refine wp_exit ?_
 repeat (with_reducible refine then_exit ?_)
 refine exit_here ?_
 show Code.wp _ _ _ a4 w4
 refine wp_seq ?_
 refine region_St (bf := [0]) (sp := [det _ 4 _]) [] mixed st4 (by kernel_rfl) trivial
  ⟨Ob.d fun c => r_assign rfl rfl, trivial⟩ ?_
 intro a9 w9 τ9 st9 f9
 have e4 : get a9 4 = (.int .i64 ((-1))) := f9.v 0 rfl
 clear f9
 show Code.wp _ _ _ a9 w9
 refine wp_ret ?_
 repeat (first | with_reducible refine then_ret ?_ | with_reducible refine block_ret ?_)
 refine ret1 (fn := Try.f66) rfl st9.defers e4 ?_
 exact ⟨congrArg _ (int_eq (by first | exact (ix_hit (f := q) (by omega) q1 (by assumption)).symm | exact (ix_miss (f := q) (k := k) (by omega) q1).symm)), st9.ext0⟩
set_option maxRecDepth 100000 in
theorem hasFn_c (v cap : Value) (ts : List Tr) (q : Tr → Bool) (w : World) (hf : ∀ t ∈ ts, ∀ w2 : World, Ext none' w w2 → Calls Try.prog 61 #[t.v, cap] w2 (fun e w3 => e = .returned (.bool (q t)) ∧ Ext none' w2 w3)) (hS : SlT TrE w v ts) : Calls Try.prog 60 #[v, (.func (.func 61) #[] #[cap])] w (fun e w' => e = .returned (.bool (ts.any q)) ∧ Ext none' w w') := by
 refine enter (n := 9) Try.func60 rfl rfl (Nat.le_of_ble_eq_true rfl) ?_
 intro a0 τ0 ha st0
 have e0 : get a0 0 = v := ha 0 _ rfl
 have e1 : get a0 1 = (.func (.func 61) #[] #[cap]) := ha 1 _ rfl
 clear ha
 have hle := hS.le
 refine wp_seq ?_
 refine region_St (bf := [0]) (sp := [det _ 4 _]) [] mixed st0 (by kernel_rfl) trivial
  ⟨Ob.d fun c => r_assign rfl rfl, trivial⟩ ?_
 intro a1 w1 τ1 st1 f1
 obtain ⟨e0, e1, -⟩ := f1.ks [(0, _), (1, _)] ⟨e0, e1, trivial⟩
 have e4 : get a1 4 = (.bool (false)) := f1.v 0 rfl
 clear f1
 show Code.wp _ _ _ a1 w1
 refine wp_seq ?_
 refine region_St (bf := [0, 0, 3, 7, 15]) (sp := [det _ 5 _, det _ 6 _, det _ 7 _, det _ 8 _, det _ 4 _]) [] mixed st1 (by kernel_rfl) trivial
  ⟨Ob.d fun c => r_move rfl (c.p e0),
  Ob.d fun c => r_move rfl (c.p e1),
  Ob.c fun c => ⟨_, _, (e_call2 rfl rfl Try.call66 (c.n 0 rfl) (c.n 1 rfl)), ixFn_c v cap ts q _ (fun t_ h_ w2_ he_ => hf t_ h_ w2_ ((st1.ext.trans c.J.ext).fresh.trans he_)) (hS.at (st1.ext.trans c.J.ext))⟩,
  Ob.d fun c => r_geq rfl (c.n 2 rfl) rfl,
  Ob.d fun c => r_assign rfl (c.n 3 rfl), trivial⟩ ?_
 intro a2 w2 τ2 st2 f2
 have e4 : get a2 4 = (.bool (decide (0 ≤ ixF q ts))) := f2.v 4 rfl
 clear f2
 show Code.wp _ _ _ a2 w2
 refine wp_ret ?_
 repeat (first | with_reducible refine then_ret ?_ | with_reducible refine block_ret ?_)
 refine ret1 (fn := Try.f60) rfl st2.defers e4 ?_
 exact ⟨congrArg _ (congrArg _ (ix_any _ _)), st2.ext0⟩
set_option maxRecDepth 100000 in
theorem some_c (v : Value) (u : Sv) (ts : List Tr) (ks : List Int) (w : World) (hS : SlT TrE w v ts) (hU : SlT IntE w u.v ks) : Calls Try.prog 54 #[v, u.v] w (fun e w' => e = .returned (.bool (ts.any fun x => ks.any fun y => decide (x.k = y))) ∧ Ext none' w w') := by
 refine enter (n := 8) Try.func54 rfl rfl (Nat.le_of_ble_eq_true rfl) ?_
 intro a0 τ0 ha st0
 have e0 : get a0 0 = v := ha 0 _ rfl
 have e1 : get a0 1 = u.v := ha 1 _ rfl
 clear ha
 have hle := hS.le
 refine wp_seq ?_
 refine region_St (bf := [0, 0]) (sp := [box _ _ 0 3 [u.v], det _ 4 _]) [] mixed st0 (by kernel_rfl) trivial
  ⟨Ob.box (v := u.v) rfl rfl rfl rfl rfl (fun _ _ _ _ c => (c.p e1)),
  Ob.d fun c => r_assign rfl rfl, trivial⟩ ?_
 intro a1 w1 τ1 st1 f1
 obtain ⟨b1x3, e3⟩ : ∃ b, get a1 3 = b := ⟨_, rfl⟩
 obtain ⟨e0, -⟩ := f1.ks [(0, _)] ⟨e0, trivial⟩
 have e4 : get a1 4 = (.bool (false)) := f1.v 1 rfl
 have r0 : boxR 70 [u.v] (τ1 0) b1x3 w1 := f1.rb 0 e3 rfl
 clear f1
 show Code.wp _ _ _ a1 w1
 refine wp_seq ?_
 refine region_St (bf := [0, 0, 3, 7]) (sp := [det _ 5 _, det _ 6 _, det _ 7 _, det _ 4 _]) [ib r0] mixed st1 (by kernel_rfl) ⟨r0, trivial⟩
  ⟨Ob.d fun c => r_move rfl (c.p e0),
  Ob.d fun c => r_makeFunc1 rfl (c.p e3),
  Ob.c fun c => ⟨_, _, (e_call2 rfl rfl Try.call60 (c.n 0 rfl) (c.n 1 rfl)), hasFn_c v b1x3 ts (fun x_ => (ks).any fun y_ => decide (x_.k = y_)) _ (fun t_ _ w2_ he_ => by rw [(c.ib 0 rfl).ptr]; exact some1_c t_ _ u.v ks w2_ (he_.cell_some ((c.ib 0 rfl).cell (j := 0) rfl) (fun h => h)) ((hU.at (st1.ext.trans c.J.ext)).keep he_ (fun _ h => h))) (hS.at (st1.ext.trans c.J.ext))⟩,
  Ob.d fun c => r_assign rfl (c.n 2 rfl), trivial⟩ ?_
 intro a2 w2 τ2 st2 f2
 have e4 : get a2 4 = (.bool ((ts).any fun x_ => (ks).any fun y_ => decide (x_.k = y_))) := f2.v 3 rfl
 clear f2
 show Code.wp _ _ _ a2 w2
 refine wp_ret ?_
 repeat (first | with_reducible refine then_ret ?_ | with_reducible refine block_ret ?_)
 refine ret1 (fn := Try.f54) rfl st2.defers e4 ?_
 exact ⟨rfl, st2.ext0⟩
end B
end Go.Proofs.Ytocmchlhbniloaa
namespace Go.Proofs.Ytocmchlhbniloaa
namespace B
open Go.RowKit
open Srt
theorem some_cv (v u : Value) (ts : List Tr) (ks : List Int) (w : World) (hS : SlT TrE w v ts) (hU : SlT IntE w u ks) : Calls Try.prog 54 #[v, u] w (fun e w' => e = .returned (.bool (ts.any fun x => ks.any fun y => decide (x.k = y))) ∧ Ext none' w w') := by
  obtain ⟨s, rfl⟩ := hU.sl.sv
  exact some_c v s ts ks w hS hU
theorem wt_small {t : Tr} (h : wtF t ≤ 1000000) : Small t.rows := fun r hr => by
  have h1 := rwW_mem hr
  have h2 := wtF_eq t
  have h3 : 0 ≤ sumL (t.kids.map wtF) := sumL_pos fun x hx => by
    obtain ⟨k, hk, rfl⟩ := List.mem_map.1 hx
    have := wtF_pos k; omega
  omega
def someK (t : Tr) (ks : List Int) : Bool := (t.kids).any fun x_ => ks.any fun y_ => decide (x_.k = y_)
def bareT (t : Tr) : Bool := bareF t.ch t.ng t.rows t.mn t.mx t.lz
def fieldsF (t : Tr) : Bool :=
  if t.k = 2 then (bareF (⟨#[]⟩ : ByteArray) t.ng t.rows t.mn t.mx t.lz && decide ((t.kids.length : Int) = 0)) && properB t.ch
  else if t.k = 4 then (bareF t.ch false [] t.mn t.mx t.lz && decide ((t.kids.length : Int) = 0)) && mayRow t.rows
  else if t.k = 7 then ((((bareF t.ch t.ng t.rows 0 0 false && decide ((t.kids.length : Int) = 1)) && repB (nth t.kids 0).k) && decide (0 ≤ t.mn)) && decide (t.mn ≤ 255)) && (decide (t.mx = -1) || (decide (t.mn ≤ t.mx) && decide (t.mx ≤ 255)))
  else if t.k = 0 then (bareT t && !decide ((t.kids.length : Int) = 1)) && !someK t [0, 1]
  else if t.k = 1 then (bareT t && decide (1 < (t.kids.length : Int))) && !someK t [1]
  else if t.k = 5 ∨ t.k = 6 then bareT t && decide ((t.kids.length : Int) = 1)
  else if t.k = 3 ∨ t.k = 8 ∨ t.k = 9 ∨ t.k = 10 ∨ t.k = 11 then bareT t && decide ((t.kids.length : Int) = 0)
  else false
set_option maxRecDepth 100000 in
theorem fields_c (t : Tr) (w : World) (hT : TrS w t) (hP : wtF t ≤ 1000000) : Calls Try.prog 40 #[(.agg #[(.int .i64 (t.k)), (.string (t.ch)), (.bool (t.ng)), t.rv.v, (.int .i64 (t.mn)), (.int .i64 (t.mx)), (.bool (t.lz)), t.kv.v])] w (fun e w' => e = .returned (.bool (fieldsF t)) ∧ Ext none' w w') := by
 refine enter (n := 149) Try.func40 rfl rfl (Nat.le_of_ble_eq_true rfl) ?_
 intro a0 τ0 ha st0
 have e0 : get a0 0 = (.agg #[(.int .i64 (t.k)), (.string (t.ch)), (.bool (t.ng)), t.rv.v, (.int .i64 (t.mn)), (.int .i64 (t.mx)), (.bool (t.lz)), t.kv.v]) := ha 0 _ rfl
 clear ha
 have hle := hT.kids.le
 have hle2 := hT.rows.le
 have hwt := wtF_bound t
 have hsm := wt_small hP
 refine wp_seq ?_
 refine region_St (bf := [0, 0]) (sp := [box _ _ 0 1 [(.int .i64 (t.k)), (.string (t.ch)), (.bool (t.ng)), t.rv.v, (.int .i64 (t.mn)), (.int .i64 (t.mx)), (.bool (t.lz)), t.kv.v], det _ 2 _]) [] mixed st0 (by kernel_rfl) trivial
  ⟨Ob.box (v := (.agg #[(.int .i64 (t.k)), (.string (t.ch)), (.bool (t.ng)), t.rv.v, (.int .i64 (t.mn)), (.int .i64 (t.mx)), (.bool (t.lz)), t.kv.v])) rfl rfl rfl rfl rfl (fun _ _ _ _ c => (c.p e0)),
  Ob.d fun c => r_assign rfl rfl, trivial⟩ ?_
 intro a1 w1 τ1 st1 f1
 obtain ⟨b1x1, e1⟩ : ∃ b, get a1 1 = b := ⟨_, rfl⟩
 have e2 : get a1 2 = (.bool (false)) := f1.v 1 rfl
 have r0 : boxR 25 [(.int .i64 (t.k)), (.string (t.ch)), (.bool (t.ng)), t.rv.v, (.int .i64 (t.mn)), (.int .i64 (t.mx)), (.bool (t.lz)), t.kv.v] (τ1 0) b1x1 w1 := f1.rb 0 e1 rfl
 clear f1
 show Code.wp _ _ _ a1 w1
 refine wp_seq ?_
 refine wp_seq ?_
 refine region_St (bf := [0, 1]) (sp := [det _ 7 _, det _ 8 _]) [ib r0] mixed st1 (by kernel_rfl) ⟨r0, trivial⟩
  ⟨Ob.d fun c => r_fieldAddr rfl Try.underlying25 rfl rfl Try.sizeOf3 ((c.p e1).trans r0.ptr),
  Ob.d fun c => r_load1 rfl Try.isAgg3 (c.n 0 rfl) ((c.ib 0 rfl).cell (j := 0) rfl), trivial⟩ ?_
 intro a2 w2 τ2 st2 f2
 obtain ⟨e1, e2, -⟩ := f2.ks [(1, _), (2, _)] ⟨e1, e2, trivial⟩
 have e8 : get a2 8 = (.int .i64 (t.k)) := f2.v 1 rfl
 replace r0 := f2.ib 0 rfl
 clear f2
 show Code.wp _ _ _ a2 w2
 refine wp_block ?_
 refine wp_seq ?_
 refine region_St (bf := [0, 1]) (sp := [det _ 10 _, det _ 9 _]) [ib r0] mixed st2 (by kernel_rfl) ⟨r0, trivial⟩
  ⟨Ob.d fun c => r_eql rfl (c.p e8) rfl,
  Ob.d fun c => r_assign rfl (c.n 0 rfl), trivial⟩ ?_
 intro a3 w3 τ3 st3 f3
 obtain ⟨e1, e2, e8, -⟩ := f3.ks [(1, _), (2, _), (8, _)] ⟨e1, e2, e8, trivial⟩
 have e9 : get a3 9 = (.bool (decide (t.k = 2))) := f3.v 1 rfl
 replace r0 := f3.ib 0 rfl
 clear f3
 show Code.wp _ _ _ a3 w3
 refine wp_cond_split (t := decide (t.k = 2)) e9 (fun hc1 => ?_) (fun hc1 => ?_)
 · try simp only [decide_eq_true_eq] at hc1
   refine wp_seq ?_
   refine region_St (bf := [0, 1, 3]) (sp := [det _ 11 _, det _ 12 _, det _ 3 _]) [ib r0] mixed st3 (by kernel_rfl) ⟨r0, trivial⟩
    ⟨Ob.d fun c => r_fieldAddr rfl Try.underlying25 rfl rfl Try.sizeOf9 ((c.p e1).trans r0.ptr),
    Ob.d fun c => r_load1 rfl Try.isAgg9 (c.n 0 rfl) ((c.ib 0 rfl).cell (j := 1) rfl),
    Ob.d fun c => r_assign rfl (c.n 1 rfl), trivial⟩ ?_
   intro a4 w4 τ4 st4 f4
   obtain ⟨e1, e2, e8, -⟩ := f4.ks [(1, _), (2, _), (8, _)] ⟨e1, e2, e8, trivial⟩
   have e3 : get a4 3 = (.string (t.ch)) := f4.v 2 rfl
   replace r0 := f4.ib 0 rfl
   clear f4
   show Code.wp _ _ _ a4 w4
   refine wp_seq ?_
   refine region_St (bf := [0, 1]) (sp := [det _ 13 _, box _ _ 0 1 [(.int .i64 (t.k)), (.string ((⟨#[]⟩ : ByteArray))), (.bool (t.ng)), t.rv.v, (.int .i64 (t.mn)), (.int .i64 (t.mx)), (.bool (t.lz)), t.kv.v]]) [ib r0] mixed st4 (by kernel_rfl) ⟨r0, trivial⟩
    ⟨Ob.d fun c => r_fieldAddr rfl Try.underlying25 rfl rfl Try.sizeOf9 ((c.p e1).trans r0.ptr),
    Ob.storeBox (off := 1) (v := (.string ((⟨#[]⟩ : ByteArray)))) rfl rfl rfl rfl Try.sizeOf9 (Nat.le_of_ble_eq_true rfl) (by simp [Value.cells, Value.oneCell', Sv.v]) rfl (fun _ _ _ _ c => ⟨c.bp 0 rfl e1, c.ad (c.n 0 rfl) e1 rfl, rfl⟩), trivial⟩ ?_
   intro a5 w5 τ5 st5 f5
   obtain ⟨e1, e2, e3, e8, -⟩ := f5.ks [(1, _), (2, _), (3, _), (8, _)] ⟨e1, e2, e3, e8, trivial⟩
   replace r0 : boxR 25 [(.int .i64 (t.k)), (.string ((⟨#[]⟩ : ByteArray))), (.bool (t.ng)), t.rv.v, (.int .i64 (t.mn)), (.int .i64 (t.mx)), (.bool (t.lz)), t.kv.v] (τ5 0) b1x1 w5 := f5.rb 1 e1 rfl
   clear f5
   show Code.wp _ _ _ a5 w5
   refine wp_seq ?_
   refine region_St (bf := [0, 1, 3, 7, 15, 31, 63, 127, 255, 511, 1023, 2047, 4095]) (sp := [det _ 14 _, det _ 15 _, det _ 16 _, gdet _ 17 _ _, gdet _ 18 _ _, gdet _ 19 _ _, gdet _ 20 _ _, det _ 21 _, det _ 22 _, gdet _ 23 _ _, gdet _ 24 _ _, det _ 25 _, det _ 2 _]) [ib r0] mixed st5 (by kernel_rfl) ⟨r0, trivial⟩
    ⟨Ob.d fun c => r_loadN (vs := [(.int .i64 (t.k)), (.string ((⟨#[]⟩ : ByteArray))), (.bool (t.ng)), t.rv.v, (.int .i64 (t.mn)), (.int .i64 (t.mx)), (.bool (t.lz)), t.kv.v]) rfl Try.isAgg25 Try.sizeOf25 ((c.p e1).trans r0.ptr) rfl (fun _ _ hj => (c.ib 0 rfl).cell hj),
    Ob.c fun c => ⟨_, _, (e_call1 rfl rfl Try.call50 (c.n 0 rfl)), bare_c t.k (⟨#[]⟩ : ByteArray) t.ng t.rv.v t.rows t.mn t.mx t.lz t.kv.v rfl _ (hT.at (st5.ext.trans c.J.ext)).rows⟩,
    Ob.d fun c => r_move rfl (c.n 1 rfl),
    Ob.g 2 true rfl fun c hpc => r_fieldAddr rfl Try.underlying25 rfl rfl Try.sizeOf23 ((c.p e1).trans r0.ptr),
    Ob.g 2 true rfl fun c hpc => r_load1 rfl Try.isAgg23 (c.m 3 rfl hpc) ((c.ib 0 rfl).cell (j := 7) rfl),
    Ob.g 2 true rfl fun c hpc => r_len rfl Try.underlying23 (c.m 4 rfl hpc) (hT.at st5.ext).tl.sl.sl,
    Ob.g 2 true rfl fun c hpc => r_eql rfl (c.m 5 rfl hpc) rfl,
    Ob.d fun c => r_and rfl (c.n 2 rfl) (fun h => c.m 6 rfl h),
    Ob.d fun c => r_move rfl (c.n 7 rfl),
    Ob.g 8 true rfl fun c hpc => r_move rfl (c.p e3),
    Ob.gc 8 true rfl fun c hpc => ⟨_, _, (e_call1 rfl rfl Try.call51 (c.m 9 rfl hpc)), proper_c t.ch _ (by have hq0 := hpc; (try simp only [Bool.and_eq_true, decide_eq_true_eq] at hq0); omega)⟩,
    Ob.d fun c => r_and rfl (c.n 8 rfl) (fun h => c.m 10 rfl h),
    Ob.d fun c => r_assign rfl (c.n 11 rfl), trivial⟩ ?_
   intro a6 w6 τ6 st6 f6
   obtain ⟨e1, e8, -⟩ := f6.ks [(1, _), (8, _)] ⟨e1, e8, trivial⟩
   have e2 : get a6 2 = (.bool (((bareF (⟨#[]⟩ : ByteArray) t.ng t.rows t.mn t.mx t.lz) && (decide ((t.kids.length : Int) = 0))) && (properB t.ch))) := f6.v 12 rfl
   replace r0 := f6.ib 0 rfl
   clear f6
   show Code.wp _ _ _ a6 w6
   refine wp_ret ?_
   repeat (first | with_reducible refine then_ret ?_ | with_reducible refine block_ret ?_)
   refine ret1 (fn := Try.f40) rfl st6.defers e2 ?_
   exact ⟨congrArg _ (congrArg _ (by unfold fieldsF; (repeat (first | rw [if_neg (by omega)] | rw [if_pos (by omega)])); (try rfl))), st6.ext0⟩
 try simp only [decide_eq_false_iff_not] at hc1
 refine wp_seq ?_
 refine region_St (bf := [0, 1]) (sp := [det _ 27 _, det _ 26 _]) [ib r0] mixed st3 (by kernel_rfl) ⟨r0, trivial⟩
  ⟨Ob.d fun c => r_eql rfl (c.p e8) rfl,
  Ob.d fun c => r_assign rfl (c.n 0 rfl), trivial⟩ ?_
 intro a7 w7 τ7 st7 f7
 obtain ⟨e1, e2, e8, -⟩ := f7.ks [(1, _), (2, _), (8, _)] ⟨e1, e2, e8, trivial⟩
 have e26 : get a7 26 = (.bool (decide (t.k = 4))) := f7.v 1 rfl
 replace r0 := f7.ib 0 rfl
 clear f7
 show Code.wp _ _ _ a7 w7
 refine wp_cond_split (t := decide (t.k = 4)) e26 (fun hc2 => ?_) (fun hc2 => ?_)
 · try simp only [decide_eq_true_eq] at hc2
   refine wp_seq ?_
   refine region_St (bf := [0, 1, 3]) (sp := [det _ 28 _, det _ 29 _, det _ 4 _]) [ib r0] mixed st7 (by kernel_rfl) ⟨r0, trivial⟩
    ⟨Ob.d fun c => r_fieldAddr rfl Try.underlying25 rfl rfl Try.sizeOf22 ((c.p e1).trans r0.ptr),
    Ob.d fun c => r_load1 rfl Try.isAgg22 (c.n 0 rfl) ((c.ib 0 rfl).cell (j := 3) rfl),
    Ob.d fun c => r_assign rfl (c.n 1 rfl), trivial⟩ ?_
   intro a8 w8 τ8 st8 f8
   obtain ⟨e1, e2, e8, -⟩ := f8.ks [(1, _), (2, _), (8, _)] ⟨e1, e2, e8, trivial⟩
   have e4 : get a8 4 = t.rv.v := f8.v 2 rfl
   replace r0 := f8.ib 0 rfl
   clear f8
   show Code.wp _ _ _ a8 w8
   refine wp_seq ?_
   refine region_of_ops ?_
   refine ops_cut 3 (by kernel_rfl) ?_
   refine ops_St (bf := [0, 1, 3]) (sp := [det _ 30 _, box _ _ 0 1 [(.int .i64 (t.k)), (.string (t.ch)), (.bool (t.ng)), (.slice none 0 0), (.int .i64 (t.mn)), (.int .i64 (t.mx)), (.bool (t.lz)), t.kv.v], det _ 31 _]) [ib r0] st8 (by kernel_rfl) ⟨r0, trivial⟩
    ⟨Ob.d fun c => r_fieldAddr rfl Try.underlying25 rfl rfl Try.sizeOf22 ((c.p e1).trans r0.ptr),
    Ob.storeBox (off := 3) (v := (.slice none 0 0)) rfl rfl rfl rfl Try.sizeOf22 (Nat.le_of_ble_eq_true rfl) (by simp [Value.cells, Value.oneCell', Sv.v]) rfl (fun _ _ _ _ c => ⟨c.bp 0 rfl e1, c.ad (c.n 0 rfl) e1 rfl, rfl⟩),
    Ob.d fun c => r_fieldAddr rfl Try.underlying25 rfl rfl Try.sizeOf4 ((c.p e1).trans r0.ptr), trivial⟩ ?_
   intro a9 w9 τ9 st9 f9
   obtain ⟨e1, e2, e4, e8, -⟩ := f9.ks [(1, _), (2, _), (4, _), (8, _)] ⟨e1, e2, e4, e8, trivial⟩
   have e31 : get a9 31 = (.pointer (some ((ptrOf b1x1).add 2))) := f9.v 2 rfl
   replace r0 : boxR 25 [(.int .i64 (t.k)), (.string (t.ch)), (.bool (t.ng)), (.slice none 0 0), (.int .i64 (t.mn)), (.int .i64 (t.mx)), (.bool (t.lz)), t.kv.v] (τ9 0) b1x1 w9 := f9.rb 1 e1 rfl
   clear f9
   refine only_mk ?_
   refine ops_St (bf := [0]) (sp := [box _ _ 0 1 [(.int .i64 (t.k)), (.string (t.ch)), (.bool (false)), (.slice none 0 0), (.int .i64 (t.mn)), (.int .i64 (t.mx)), (.bool (t.lz)), t.kv.v]]) [ib r0] st9 (by kernel_rfl) ⟨r0, trivial⟩
    ⟨Ob.storeBox (off := 2) (v := (.bool (false))) rfl rfl rfl rfl Try.sizeOf4 (Nat.le_of_ble_eq_true rfl) (by simp [Value.cells, Value.oneCell', Sv.v]) rfl (fun _ _ _ _ c => ⟨c.bp 0 rfl e1, c.ad (c.p e31) e1 rfl, rfl⟩), trivial⟩ ?_
   intro a10 w10 τ10 st10 f10
   obtain ⟨e1, e2, e4, e8, -⟩ := f10.ks [(1, _), (2, _), (4, _), (8, _)] ⟨e1, e2, e4, e8, trivial⟩
   replace r0 : boxR 25 [(.int .i64 (t.k)), (.string (t.ch)), (.bool (false)), (.slice none 0 0), (.int .i64 (t.mn)), (.int .i64 (t.mx)), (.bool (t.lz)), t.kv.v] (τ10 0) b1x1 w10 := f10.rb 0 e1 rfl
   clear f10
   show Code.wp _ _ _ a10 w10
   refine wp_seq ?_
   refine region_St (bf := [0, 1, 3, 7, 15, 31, 63, 127, 255, 511, 1023, 2047, 4095]) (sp := [det _ 32 _, det _ 33 _, det _ 34 _, gdet _ 35 _ _, gdet _ 36 _ _, gdet _ 37 _ _, gdet _ 38 _ _, det _ 39 _, det _ 40 _, gdet _ 41 _ _, gdet _ 42 _ _, det _ 43 _, det _ 2 _]) [ib r0] mixed st10 (by kernel_rfl) ⟨r0, trivial⟩
    ⟨Ob.d fun c => r_loadN (vs := [(.int .i64 (t.k)), (.string (t.ch)), (.bool (false)), (.slice none 0 0), (.int .i64 (t.mn)), (.int .i64 (t.mx)), (.bool (t.lz)), t.kv.v]) rfl Try.isAgg25 Try.sizeOf25 ((c.p e1).trans r0.ptr) rfl (fun _ _ hj => (c.ib 0 rfl).cell hj),
    Ob.c fun c => ⟨_, _, (e_call1 rfl rfl Try.call50 (c.n 0 rfl)), bare_c t.k t.ch false (.slice none 0 0) [] t.mn t.mx t.lz t.kv.v rfl _ (SlT.nil _ _)⟩,
    Ob.d fun c => r_move rfl (c.n 1 rfl),
    Ob.g 2 true rfl fun c hpc => r_fieldAddr rfl Try.underlying25 rfl rfl Try.sizeOf23 ((c.p e1).trans r0.ptr),
    Ob.g 2 true rfl fun c hpc => r_load1 rfl Try.isAgg23 (c.m 3 rfl hpc) ((c.ib 0 rfl).cell (j := 7) rfl),
    Ob.g 2 true rfl fun c hpc => r_len rfl Try.underlying23 (c.m 4 rfl hpc) (hT.at st10.ext).tl.sl.sl,
    Ob.g 2 true rfl fun c hpc => r_eql rfl (c.m 5 rfl hpc) rfl,
    Ob.d fun c => r_and rfl (c.n 2 rfl) (fun h => c.m 6 rfl h),
    Ob.d fun c => r_move rfl (c.n 7 rfl),
    Ob.g 8 true rfl fun c hpc => r_move rfl (c.p e4),
    Ob.gc 8 true rfl fun c hpc => ⟨_, _, (e_call1 rfl rfl Try.call52 (c.m 9 rfl hpc)), mayR_c t.rv.v t.rows _ (hT.at (st10.ext.trans c.J.ext)).rows (by first | assumption | (unfold Small; decide)) (by have hq0 := hpc; (try simp only [Bool.and_eq_true, decide_eq_true_eq] at hq0); omega)⟩,
    Ob.d fun c => r_and rfl (c.n 8 rfl) (fun h => c.m 10 rfl h),
    Ob.d fun c => r_assign rfl (c.n 11 rfl), trivial⟩ ?_
   intro a11 w11 τ11 st11 f11
   obtain ⟨e1, e8, -⟩ := f11.ks [(1, _), (8, _)] ⟨e1, e8, trivial⟩
   have e2 : get a11 2 = (.bool (((bareF t.ch false [] t.mn t.mx t.lz) && (decide ((t.kids.length : Int) = 0))) && (mayRow t.rows))) := f11.v 12 rfl
   replace r0 := f11.ib 0 rfl
   clear f11
   show Code.wp _ _ _ a11 w11
   refine wp_ret ?_
   repeat (first | with_reducible refine then_ret ?_ | with_reducible refine block_ret ?_)
   refine ret1 (fn := Try.f40) rfl st11.defers e2 ?_
   exact ⟨congrArg _ (congrArg _ (by unfold fieldsF; (repeat (first | rw [if_neg (by omega)] | rw [if_pos (by omega)])); (try rfl))), st11.ext0⟩
 try simp only [decide_eq_false_iff_not] at hc2
 refine wp_seq ?_
 refine region_St (bf := [0, 1]) (sp := [det _ 45 _, det _ 44 _]) [ib r0] mixed st7 (by kernel_rfl) ⟨r0, trivial⟩
  ⟨Ob.d fun c => r_eql rfl (c.p e8) rfl,
  Ob.d fun c => r_assign rfl (c.n 0 rfl), trivial⟩ ?_
 intro a12 w12 τ12 st12 f12
 obtain ⟨e1, e2, e8, -⟩ := f12.ks [(1, _), (2, _), (8, _)] ⟨e1, e2, e8, trivial⟩
 have e44 : get a12 44 = (.bool (decide (t.k = 7))) := f12.v 1 rfl
 replace r0 := f12.ib 0 rfl
 clear f12
 show Code.wp _ _ _ a12 w12
 refine wp_cond_split (t := decide (t.k = 7)) e44 (fun hc3 => ?_) (fun hc3 => ?_)
 · try simp only [decide_eq_true_eq] at hc3
   refine wp_seq ?_
   refine region_St (bf := [0, 1, 0, 4, 3, 31]) (sp := [det _ 46 _, det _ 47 _, det _ 48 _, det _ 49 _, det _ 5 _, det _ 6 _]) [ib r0] mixed st12 (by kernel_rfl) ⟨r0, trivial⟩
    ⟨Ob.d fun c => r_fieldAddr rfl Try.underlying25 rfl rfl Try.sizeOf3 ((c.p e1).trans r0.ptr),
    Ob.d fun c => r_load1 rfl Try.isAgg3 (c.n 0 rfl) ((c.ib 0 rfl).cell (j := 4) rfl),
    Ob.d fun c => r_fieldAddr rfl Try.underlying25 rfl rfl Try.sizeOf3 ((c.p e1).trans r0.ptr),
    Ob.d fun c => r_load1 rfl Try.isAgg3 (c.n 2 rfl) ((c.ib 0 rfl).cell (j := 5) rfl),
    Ob.d fun c => r_assign rfl (c.n 1 rfl),
    Ob.d fun c => r_assign rfl (c.n 3 rfl), trivial⟩ ?_
   intro a13 w13 τ13 st13 f13
   obtain ⟨e1, e2, e8, -⟩ := f13.ks [(1, _), (2, _), (8, _)] ⟨e1, e2, e8, trivial⟩
   have e5 : get a13 5 = (.int .i64 (t.mn)) := f13.v 4 rfl
   have e6 : get a13 6 = (.int .i64 (t.mx)) := f13.v 5 rfl
   replace r0 := f13.ib 0 rfl
   clear f13
   show Code.wp _ _ _ a13 w13
   refine wp_seq ?_
   refine region_of_ops ?_
   refine ops_cut 3 (by kernel_rfl) ?_
   refine ops_St (bf := [0, 1, 3]) (sp := [det _ 50 _, box _ _ 0 1 [(.int .i64 (t.k)), (.string (t.ch)), (.bool (t.ng)), t.rv.v, (.int .i64 (0)), (.int .i64 (t.mx)), (.bool (t.lz)), t.kv.v], det _ 51 _]) [ib r0] st13 (by kernel_rfl) ⟨r0, trivial⟩
    ⟨Ob.d fun c => r_fieldAddr rfl Try.underlying25 rfl rfl Try.sizeOf3 ((c.p e1).trans r0.ptr),
    Ob.storeBox (off := 4) (v := (.int .i64 (0))) rfl rfl rfl rfl Try.sizeOf3 (Nat.le_of_ble_eq_true rfl) (by simp [Value.cells, Value.oneCell', Sv.v]) rfl (fun _ _ _ _ c => ⟨c.bp 0 rfl e1, c.ad (c.n 0 rfl) e1 rfl, rfl⟩),
    Ob.d fun c => r_fieldAddr rfl Try.underlying25 rfl rfl Try.sizeOf3 ((c.p e1).trans r0.ptr), trivial⟩ ?_
   intro a14 w14 τ14 st14 f14
   obtain ⟨e1, e2, e5, e6, e8, -⟩ := f14.ks [(1, _), (2, _), (5, _), (6, _), (8, _)] ⟨e1, e2, e5, e6, e8, trivial⟩
   have e51 : get a14 51 = (.pointer (some ((ptrOf b1x1).add 5))) := f14.v 2 rfl
   replace r0 : boxR 25 [(.int .i64 (t.k)), (.string (t.ch)), (.bool (t.ng)), t.rv.v, (.int .i64 (0)), (.int .i64 (t.mx)), (.bool (t.lz)), t.kv.v] (τ14 0) b1x1 w14 := f14.rb 1 e1 rfl
   clear f14
   refine only_mk ?_
   refine ops_cut 2 (by kernel_rfl) ?_
   refine ops_St (bf := [0, 1]) (sp := [box _ _ 0 1 [(.int .i64 (t.k)), (.string (t.ch)), (.bool (t.ng)), t.rv.v, (.int .i64 (0)), (.int .i64 (0)), (.bool (t.lz)), t.kv.v], det _ 52 _]) [ib r0] st14 (by kernel_rfl) ⟨r0, trivial⟩
    ⟨Ob.storeBox (off := 5) (v := (.int .i64 (0))) rfl rfl rfl rfl Try.sizeOf3 (Nat.le_of_ble_eq_true rfl) (by simp [Value.cells, Value.oneCell', Sv.v]) rfl (fun _ _ _ _ c => ⟨c.bp 0 rfl e1, c.ad (c.p e51) e1 rfl, rfl⟩),
    Ob.d fun c => r_fieldAddr rfl Try.underlying25 rfl rfl Try.sizeOf4 ((c.p e1).trans r0.ptr), trivial⟩ ?_
   intro a15 w15 τ15 st15 f15
   obtain ⟨e1, e2, e5, e6, e8, -⟩ := f15.ks [(1, _), (2, _), (5, _), (6, _), (8, _)] ⟨e1, e2, e5, e6, e8, trivial⟩
   have e52 : get a15 52 = (.pointer (some ((ptrOf b1x1).add 6))) := f15.v 1 rfl
   replace r0 : boxR 25 [(.int .i64 (t.k)), (.string (t.ch)), (.bool (t.ng)), t.rv.v, (.int .i64 (0)), (.int .i64 (0)), (.bool (t.lz)), t.kv.v] (τ15 0) b1x1 w15 := f15.rb 0 e1 rfl
   clear f15
   refine only_mk ?_
   refine ops_St (bf := [0]) (sp := [box _ _ 0 1 [(.int .i64 (t.k)), (.string (t.ch)), (.bool (t.ng)), t.rv.v, (.int .i64 (0)), (.int .i64 (0)), (.bool (false)), t.kv.v]]) [ib r0] st15 (by kernel_rfl) ⟨r0, trivial⟩
    ⟨Ob.storeBox (off := 6) (v := (.bool (false))) rfl rfl rfl rfl Try.sizeOf4 (Nat.le_of_ble_eq_true rfl) (by simp [Value.cells, Value.oneCell', Sv.v]) rfl (fun _ _ _ _ c => ⟨c.bp 0 rfl e1, c.ad (c.p e52) e1 rfl, rfl⟩), trivial⟩ ?_
   intro a16 w16 τ16 st16 f16
   obtain ⟨e1, e2, e5, e6, e8, -⟩ := f16.ks [(1, _), (2, _), (5, _), (6, _), (8, _)] ⟨e1, e2, e5, e6, e8, trivial⟩
   replace r0 : boxR 25 [(.int .i64 (t.k)), (.string (t.ch)), (.bool (t.ng)), t.rv.v, (.int .i64 (0)), (.int .i64 (0)), (.bool (false)), t.kv.v] (τ16 0) b1x1 w16 := f16.rb 0 e1 rfl
   clear f16
   show Code.wp _ _ _ a16 w16
   refine wp_seq ?_
   refine region_St (bf := [0, 1, 3, 7, 15, 31, 63, 127, 255, 511, 1023, 2047, 4095, 8191, 16383, 32767, 65535, 131071, 262143, 524287, 1048575, 2097151, 4194303, 8388607, 16777215, 33554431, 67108863, 134217727, 268435455, 268435455, 1073741823, 2147483647, 4294967295, 8589934591, 17179869183, 34359738367, 68719476735, 137438953471]) (sp := [det _ 53 _, det _ 54 _, det _ 55 _, gdet _ 56 _ _, gdet _ 57 _ _, gdet _ 58 _ _, gdet _ 59 _ _, det _ 60 _, det _ 61 _, gdet _ 62 _ _, gdet _ 63 _ _, gdet _ 64 _ _, gdet _ 65 _ _, gdet _ 66 _ _, gdet _ 67 _ _, det _ 68 _, det _ 69 _, gdet _ 70 _ _, gdet _ 71 _ _, det _ 72 _, det _ 73 _, gdet _ 74 _ _, gdet _ 75 _ _, det _ 76 _, det _ 77 _, gdet _ 78 _ _, gdet _ 79 _ _, gdet _ 80 _ _, gdet _ 81 _ _, gdet _ 82 _ _, gdet _ 83 _ _, gdet _ 84 _ _, gdet _ 85 _ _, gdet _ 86 _ _, gdet _ 87 _ _, gdet _ 88 _ _, det _ 89 _, det _ 2 _]) [ib r0] mixed st16 (by kernel_rfl) ⟨r0, trivial⟩
    ⟨Ob.d fun c => r_loadN (vs := [(.int .i64 (t.k)), (.string (t.ch)), (.bool (t.ng)), t.rv.v, (.int .i64 (0)), (.int .i64 (0)), (.bool (false)), t.kv.v]) rfl Try.isAgg25 Try.sizeOf25 ((c.p e1).trans r0.ptr) rfl (fun _ _ hj => (c.ib 0 rfl).cell hj),
    Ob.c fun c => ⟨_, _, (e_call1 rfl rfl Try.call50 (c.n 0 rfl)), bare_c t.k t.ch t.ng t.rv.v t.rows 0 0 false t.kv.v rfl _ (hT.at (st16.ext.trans c.J.ext)).rows⟩,
    Ob.d fun c => r_move rfl (c.n 1 rfl),
    Ob.g 2 true rfl fun c hpc => r_fieldAddr rfl Try.underlying25 rfl rfl Try.sizeOf23 ((c.p e1).trans r0.ptr),
    Ob.g 2 true rfl fun c hpc => r_load1 rfl Try.isAgg23 (c.m 3 rfl hpc) ((c.ib 0 rfl).cell (j := 7) rfl),
    Ob.g 2 true rfl fun c hpc => r_len rfl Try.underlying23 (c.m 4 rfl hpc) (hT.at st16.ext).tl.sl.sl,
    Ob.g 2 true rfl fun c hpc => r_eql rfl (c.m 5 rfl hpc) rfl,
    Ob.d fun c => r_and rfl (c.n 2 rfl) (fun h => c.m 6 rfl h),
    Ob.d fun c => r_move rfl (c.n 7 rfl),
    Ob.g 8 true rfl fun c hpc => r_fieldAddr rfl Try.underlying25 rfl rfl Try.sizeOf23 ((c.p e1).trans r0.ptr),
    Ob.g 8 true rfl fun c hpc => r_load1 rfl Try.isAgg23 (c.m 9 rfl hpc) ((c.ib 0 rfl).cell (j := 7) rfl),
    Ob.g 8 true rfl fun c hpc => r_indexAddr rfl Try.underlying23 Try.sizeOf25 (c.m 10 rfl hpc) (hT.at st16.ext).tl.sl.sl rfl (by have hq0 := hpc; (try simp only [Bool.and_eq_true, decide_eq_true_eq] at hq0); omega) (by have hq0 := hpc; (try simp only [Bool.and_eq_true, decide_eq_true_eq] at hq0); omega),
    Ob.g 8 true rfl fun c hpc => r_fieldAddr rfl Try.underlying25 rfl rfl Try.sizeOf3 (c.m 11 rfl hpc),
    Ob.g 8 true rfl fun c hpc => r_load1 rfl Try.isAgg3 (c.m 12 rfl hpc) (((hT.at (st16.ext.trans c.J.ext)).tl.sl).elem (j := 0) (nth_some (i := 0) (by have hq0 := hpc; (try simp only [Bool.and_eq_true, decide_eq_true_eq] at hq0); omega) (by have hq0 := hpc; (try simp only [Bool.and_eq_true, decide_eq_true_eq] at hq0); omega)) rfl),
    Ob.gc 8 true rfl fun c hpc => ⟨_, _, (e_call1 rfl rfl Try.call53 (c.m 13 rfl hpc)), repeated_c ((nth t.kids (0)).k) _⟩,
    Ob.d fun c => r_and rfl (c.n 8 rfl) (fun h => c.m 14 rfl h),
    Ob.d fun c => r_move rfl (c.n 15 rfl),
    Ob.g 16 true rfl fun c hpc => r_move rfl (c.p e5),
    Ob.g 16 true rfl fun c hpc => r_geq rfl (c.m 17 rfl hpc) rfl,
    Ob.d fun c => r_and rfl (c.n 16 rfl) (fun h => c.m 18 rfl h),
    Ob.d fun c => r_move rfl (c.n 19 rfl),
    Ob.g 20 true rfl fun c hpc => r_move rfl (c.p e5),
    Ob.g 20 true rfl fun c hpc => r_leq rfl (c.m 21 rfl hpc) rfl,
    Ob.d fun c => r_and rfl (c.n 20 rfl) (fun h => c.m 22 rfl h),
    Ob.d fun c => r_move rfl (c.n 23 rfl),
    Ob.g 24 true rfl fun c hpc => r_move rfl (c.p e6),
    Ob.g 24 true rfl fun c hpc => r_eql rfl (c.m 25 rfl hpc) rfl,
    Ob.g 24 true rfl fun c hpc => r_move rfl (c.m 26 rfl hpc),
    Ob.gg 27 false rfl fun c hpc => r_move rfl (c.p e6),
    Ob.gg 27 false rfl fun c hpc => r_move rfl (c.p e5),
    Ob.gg 27 false rfl fun c hpc => r_geq rfl (c.m 28 rfl hpc) (c.m 29 rfl hpc),
    Ob.gg 27 false rfl fun c hpc => r_move rfl (c.m 30 rfl hpc),
    Ob.gg 31 true rfl fun c hpc => r_move rfl (c.p e6),
    Ob.gg 31 true rfl fun c hpc => r_leq rfl (c.m 32 rfl hpc) rfl,
    Ob.gg 27 false rfl fun c hpc => r_and rfl (c.m 31 rfl hpc) (fun h => c.m 33 rfl (And.intro hpc h)),
    Ob.g 24 true rfl fun c hpc => r_or rfl (c.m 27 rfl hpc) (fun h => c.m 34 rfl (And.intro hpc h)),
    Ob.d fun c => r_and rfl (c.n 24 rfl) (fun h => c.m 35 rfl h),
    Ob.d fun c => r_assign rfl (c.n 36 rfl), trivial⟩ ?_
   intro a17 w17 τ17 st17 f17
   obtain ⟨e1, e8, -⟩ := f17.ks [(1, _), (8, _)] ⟨e1, e8, trivial⟩
   have e2 : get a17 2 = (.bool ((((((bareF t.ch t.ng t.rows 0 0 false) && (decide ((t.kids.length : Int) = 1))) && (repB ((nth t.kids (0)).k))) && (decide (0 ≤ t.mn))) && (decide (t.mn ≤ 255))) && ((decide (t.mx = (-1))) || ((decide (t.mn ≤ t.mx)) && (decide (t.mx ≤ 255)))))) := f17.v 37 rfl
   replace r0 := f17.ib 0 rfl
   clear f17
   show Code.wp _ _ _ a17 w17
   refine wp_ret ?_
   repeat (first | with_reducible refine then_ret ?_ | with_reducible refine block_ret ?_)
   refine ret1 (fn := Try.f40) rfl st17.defers e2 ?_
   exact ⟨congrArg _ (congrArg _ (by unfold fieldsF; (repeat (first | rw [if_neg (by omega)] | rw [if_pos (by omega)])); (try rfl))), st17.ext0⟩
 try simp only [decide_eq_false_iff_not] at hc3
 refine wp_seq ?_
 refine region_St (bf := [0, 1]) (sp := [det _ 91 _, det _ 90 _]) [ib r0] mixed st12 (by kernel_rfl) ⟨r0, trivial⟩
  ⟨Ob.d fun c => r_eql rfl (c.p e8) rfl,
  Ob.d fun c => r_assign rfl (c.n 0 rfl), trivial⟩ ?_
 intro a18 w18 τ18 st18 f18
 obtain ⟨e1, e2, e8, -⟩ := f18.ks [(1, _), (2, _), (8, _)] ⟨e1, e2, e8, trivial⟩
 have e90 : get a18 90 = (.bool (decide (t.k = 0))) := f18.v 1 rfl
 replace r0 := f18.ib 0 rfl
 clear f18
 show Code.wp _ _ _ a18 w18
 refine wp_cond_split (t := decide (t.k = 0)) e90 (fun hc4 => ?_) (fun hc4 => ?_)
 · try simp only [decide_eq_true_eq] at hc4
   refine wp_seq ?_
   refine region_St (bf := [0, 1, 3, 7, 15, 31, 63, 127, 255, 511, 1023, 511, 4095, 8191, 16383, 32767]) (sp := [det _ 92 _, det _ 93 _, det _ 94 _, gdet _ 95 _ _, gdet _ 96 _ _, gdet _ 97 _ _, gdet _ 98 _ _, det _ 99 _, det _ 100 _, gdet _ 101 _ _, gdet _ 102 _ _, gown (((bareF t.ch t.ng t.rows t.mn t.mx t.lz) && (!decide ((t.kids.length : Int) = 1))) = true) IntE 3 (Nw w) 1 103 ([0, 1]), gdet _ 104 _ _, gdet _ 105 _ _, det _ 106 _, det _ 2 _]) [ib r0] mixed st18 (by kernel_rfl) ⟨r0, trivial⟩
    ⟨Ob.d fun c => r_loadN (vs := [(.int .i64 (t.k)), (.string (t.ch)), (.bool (t.ng)), t.rv.v, (.int .i64 (t.mn)), (.int .i64 (t.mx)), (.bool (t.lz)), t.kv.v]) rfl Try.isAgg25 Try.sizeOf25 ((c.p e1).trans r0.ptr) rfl (fun _ _ hj => (c.ib 0 rfl).cell hj),
    Ob.c fun c => ⟨_, _, (e_call1 rfl rfl Try.call50 (c.n 0 rfl)), bare_c t.k t.ch t.ng t.rv.v t.rows t.mn t.mx t.lz t.kv.v rfl _ (hT.at (st18.ext.trans c.J.ext)).rows⟩,
    Ob.d fun c => r_move rfl (c.n 1 rfl),
    Ob.g 2 true rfl fun c hpc => r_fieldAddr rfl Try.underlying25 rfl rfl Try.sizeOf23 ((c.p e1).trans r0.ptr),
    Ob.g 2 true rfl fun c hpc => r_load1 rfl Try.isAgg23 (c.m 3 rfl hpc) ((c.ib 0 rfl).cell (j := 7) rfl),
    Ob.g 2 true rfl fun c hpc => r_len rfl Try.underlying23 (c.m 4 rfl hpc) (hT.at st18.ext).tl.sl.sl,
    Ob.g 2 true rfl fun c hpc => r_neq rfl (c.m 5 rfl hpc) rfl,
    Ob.d fun c => r_and rfl (c.n 2 rfl) (fun h => c.m 6 rfl h),
    Ob.d fun c => r_move rfl (c.n 7 rfl),
    Ob.g 8 true rfl fun c hpc => r_fieldAddr rfl Try.underlying25 rfl rfl Try.sizeOf23 ((c.p e1).trans r0.ptr),
    Ob.g 8 true rfl fun c hpc => r_load1 rfl Try.isAgg23 (c.m 9 rfl hpc) ((c.ib 0 rfl).cell (j := 7) rfl),
    Ob.gown (gi := 8) (tg := 100) rfl rfl rfl rfl rfl rfl Iff.rfl (fun hpc => Ob.buildSlice (cells := #[(.int .i64 (0)), (.int .i64 (1))]) rfl rfl rfl rfl Try.underlying70 Try.sizeOf3 Try.zeroValue3 rfl (by decide) (by decide) (fun _ _ _ _ c => fill2 rfl rfl (by kernel_rfl)) rfl),
    Ob.gc 8 true rfl fun c hpc => ⟨_, _, (e_call2 rfl rfl Try.call54 (c.m 10 rfl hpc) (eval_tmp _ 103)), some_cv t.kv.v _ t.kids [0, 1] _ (hT.at (st18.ext.trans c.J.ext)).tl.sl (c.rg 11 rfl hpc).1.sl⟩,
    Ob.g 8 true rfl fun c hpc => r_not rfl (c.m 12 rfl hpc),
    Ob.d fun c => r_and rfl (c.n 8 rfl) (fun h => c.m 13 rfl h),
    Ob.d fun c => r_assign rfl (c.n 14 rfl), trivial⟩ ?_
   intro a19 w19 τ19 st19 f19
   obtain ⟨e1, e8, -⟩ := f19.ks [(1, _), (8, _)] ⟨e1, e8, trivial⟩
   have e2 : get a19 2 = (.bool (((bareF t.ch t.ng t.rows t.mn t.mx t.lz) && (!decide ((t.kids.length : Int) = 1))) && (!((t.kids).any fun x_ => ([0, 1]).any fun y_ => decide (x_.k = y_))))) := f19.v 15 rfl
   replace r0 := f19.ib 0 rfl
   clear f19
   show Code.wp _ _ _ a19 w19
   refine wp_ret ?_
   repeat (first | with_reducible refine then_ret ?_ | with_reducible refine block_ret ?_)
   refine ret1 (fn := Try.f40) rfl st19.defers e2 ?_
   exact ⟨congrArg _ (congrArg _ (by unfold fieldsF; (repeat (first | rw [if_neg (by omega)] | rw [if_pos (by omega)])); (try rfl))), st19.ext0⟩
 try simp only [decide_eq_false_iff_not] at hc4
 refine wp_seq ?_
 refine region_St (bf := [0, 1]) (sp := [det _ 108 _, det _ 107 _]) [ib r0] mixed st18 (by kernel_rfl) ⟨r0, trivial⟩
  ⟨Ob.d fun c => r_eql rfl (c.p e8) rfl,
  Ob.d fun c => r_assign rfl (c.n 0 rfl), trivial⟩ ?_
 intro a20 w20 τ20 st20 f20
 obtain ⟨e1, e2, e8, -⟩ := f20.ks [(1, _), (2, _), (8, _)] ⟨e1, e2, e8, trivial⟩
 have e107 : get a20 107 = (.bool (decide (t.k = 1))) := f20.v 1 rfl
 replace r0 := f20.ib 0 rfl
 clear f20
 show Code.wp _ _ _ a20 w20
 refine wp_cond_split (t := decide (t.k = 1)) e107 (fun hc5 => ?_) (fun hc5 => ?_)
 · try simp only [decide_eq_true_eq] at hc5
   refine wp_seq ?_
   refine region_St (bf := [0, 1, 3, 7, 15, 31, 63, 127, 255, 511, 1023, 511, 4095, 8191, 16383, 32767]) (sp := [det _ 109 _, det _ 110 _, det _ 111 _, gdet _ 112 _ _, gdet _ 113 _ _, gdet _ 114 _ _, gdet _ 115 _ _, det _ 116 _, det _ 117 _, gdet _ 118 _ _, gdet _ 119 _ _, gown (((bareF t.ch t.ng t.rows t.mn t.mx t.lz) && (decide (1 < (t.kids.length : Int)))) = true) IntE 3 (Nw w) 1 120 ([1]), gdet _ 121 _ _, gdet _ 122 _ _, det _ 123 _, det _ 2 _]) [ib r0] mixed st20 (by kernel_rfl) ⟨r0, trivial⟩
    ⟨Ob.d fun c => r_loadN (vs := [(.int .i64 (t.k)), (.string (t.ch)), (.bool (t.ng)), t.rv.v, (.int .i64 (t.mn)), (.int .i64 (t.mx)), (.bool (t.lz)), t.kv.v]) rfl Try.isAgg25 Try.sizeOf25 ((c.p e1).trans r0.ptr) rfl (fun _ _ hj => (c.ib 0 rfl).cell hj),
    Ob.c fun c => ⟨_, _, (e_call1 rfl rfl Try.call50 (c.n 0 rfl)), bare_c t.k t.ch t.ng t.rv.v t.rows t.mn t.mx t.lz t.kv.v rfl _ (hT.at (st20.ext.trans c.J.ext)).rows⟩,
    Ob.d fun c => r_move rfl (c.n 1 rfl),
    Ob.g 2 true rfl fun c hpc => r_fieldAddr rfl Try.underlying25 rfl rfl Try.sizeOf23 ((c.p e1).trans r0.ptr),
    Ob.g 2 true rfl fun c hpc => r_load1 rfl Try.isAgg23 (c.m 3 rfl hpc) ((c.ib 0 rfl).cell (j := 7) rfl),
    Ob.g 2 true rfl fun c hpc => r_len rfl Try.underlying23 (c.m 4 rfl hpc) (hT.at st20.ext).tl.sl.sl,
    Ob.g 2 true rfl fun c hpc => r_gtr rfl (c.m 5 rfl hpc) rfl,
    Ob.d fun c => r_and rfl (c.n 2 rfl) (fun h => c.m 6 rfl h),
    Ob.d fun c => r_move rfl (c.n 7 rfl),
    Ob.g 8 true rfl fun c hpc => r_fieldAddr rfl Try.underlying25 rfl rfl Try.sizeOf23 ((c.p e1).trans r0.ptr),
    Ob.g 8 true rfl fun c hpc => r_load1 rfl Try.isAgg23 (c.m 9 rfl hpc) ((c.ib 0 rfl).cell (j := 7) rfl),
    Ob.gown (gi := 8) (tg := 117) rfl rfl rfl rfl rfl rfl Iff.rfl (fun hpc => Ob.buildSlice (cells := #[(.int .i64 (1))]) rfl rfl rfl rfl Try.underlying70 Try.sizeOf3 Try.zeroValue3 rfl (by decide) (by decide) (fun _ _ _ _ c => fill1 rfl (by kernel_rfl)) rfl),
    Ob.gc 8 true rfl fun c hpc => ⟨_, _, (e_call2 rfl rfl Try.call54 (c.m 10 rfl hpc) (eval_tmp _ 120)), some_cv t.kv.v _ t.kids [1] _ (hT.at (st20.ext.trans c.J.ext)).tl.sl (c.rg 11 rfl hpc).1.sl⟩,
    Ob.g 8 true rfl fun c hpc => r_not rfl (c.m 12 rfl hpc),
    Ob.d fun c => r_and rfl (c.n 8 rfl) (fun h => c.m 13 rfl h),
    Ob.d fun c => r_assign rfl (c.n 14 rfl), trivial⟩ ?_
   intro a21 w21 τ21 st21 f21
   obtain ⟨e1, e8, -⟩ := f21.ks [(1, _), (8, _)] ⟨e1, e8, trivial⟩
   have e2 : get a21 2 = (.bool (((bareF t.ch t.ng t.rows t.mn t.mx t.lz) && (decide (1 < (t.kids.length : Int)))) && (!((t.kids).any fun x_ => ([1]).any fun y_ => decide (x_.k = y_))))) := f21.v 15 rfl
   replace r0 := f21.ib 0 rfl
   clear f21
   show Code.wp _ _ _ a21 w21
   refine wp_ret ?_
   repeat (first | with_reducible refine then_ret ?_ | with_reducible refine block_ret ?_)
   refine ret1 (fn := Try.f40) rfl st21.defers e2 ?_
   exact ⟨congrArg _ (congrArg _ (by unfold fieldsF; (repeat (first | rw [if_neg (by omega)] | rw [if_pos (by omega)])); (try rfl))), st21.ext0⟩
 try simp only [decide_eq_false_iff_not] at hc5
 refine wp_seq ?_
 refine wp_seq ?_
 refine region_St (bf := [0, 1]) (sp := [det _ 125 _, det _ 124 _]) [ib r0] mixed st20 (by kernel_rfl) ⟨r0, trivial⟩
  ⟨Ob.d fun c => r_eql rfl (c.p e8) rfl,
  Ob.d fun c => r_assign rfl (c.n 0 rfl), trivial⟩ ?_
 intro a22 w22 τ22 st22 f22
 obtain ⟨e1, e2, e8, -⟩ := f22.ks [(1, _), (2, _), (8, _)] ⟨e1, e2, e8, trivial⟩
 have e124 : get a22 124 = (.bool (decide (t.k = 5))) := f22.v 1 rfl
 replace r0 := f22.ib 0 rfl
 clear f22
 show Code.wp _ _ _ a22 w22
 refine wp_cond_split (t := decide (t.k = 5)) e124 (fun hc6 => ?_) (fun hc6 => ?_)
 · have hd6 := hc6; try simp only [decide_eq_true_eq] at hd6
   refine wp_skip ?_
   show Code.wp _ _ _ a22 w22
   refine wp_cond_true (e124.trans (congrArg _ hc6)) ?_
   refine wp_seq ?_
   refine region_St (bf := [0, 1, 3, 7, 15, 31, 63, 127, 255]) (sp := [det _ 127 _, det _ 128 _, det _ 129 _, gdet _ 130 _ _, gdet _ 131 _ _, gdet _ 132 _ _, gdet _ 133 _ _, det _ 134 _, det _ 2 _]) [ib r0] mixed st22 (by kernel_rfl) ⟨r0, trivial⟩
    ⟨Ob.d fun c => r_loadN (vs := [(.int .i64 (t.k)), (.string (t.ch)), (.bool (t.ng)), t.rv.v, (.int .i64 (t.mn)), (.int .i64 (t.mx)), (.bool (t.lz)), t.kv.v]) rfl Try.isAgg25 Try.sizeOf25 ((c.p e1).trans r0.ptr) rfl (fun _ _ hj => (c.ib 0 rfl).cell hj),
    Ob.c fun c => ⟨_, _, (e_call1 rfl rfl Try.call50 (c.n 0 rfl)), bare_c t.k t.ch t.ng t.rv.v t.rows t.mn t.mx t.lz t.kv.v rfl _ (hT.at (st22.ext.trans c.J.ext)).rows⟩,
    Ob.d fun c => r_move rfl (c.n 1 rfl),
    Ob.g 2 true rfl fun c hpc => r_fieldAddr rfl Try.underlying25 rfl rfl Try.sizeOf23 ((c.p e1).trans r0.ptr),
    Ob.g 2 true rfl fun c hpc => r_load1 rfl Try.isAgg23 (c.m 3 rfl hpc) ((c.ib 0 rfl).cell (j := 7) rfl),
    Ob.g 2 true rfl fun c hpc => r_len rfl Try.underlying23 (c.m 4 rfl hpc) (hT.at st22.ext).tl.sl.sl,
    Ob.g 2 true rfl fun c hpc => r_eql rfl (c.m 5 rfl hpc) rfl,
    Ob.d fun c => r_and rfl (c.n 2 rfl) (fun h => c.m 6 rfl h),
    Ob.d fun c => r_assign rfl (c.n 7 rfl), trivial⟩ ?_
   intro a23 w23 τ23 st23 f23
   obtain ⟨e1, e8, -⟩ := f23.ks [(1, _), (8, _)] ⟨e1, e8, trivial⟩
   have e2 : get a23 2 = (.bool ((bareF t.ch t.ng t.rows t.mn t.mx t.lz) && (decide ((t.kids.length : Int) = 1)))) := f23.v 8 rfl
   replace r0 := f23.ib 0 rfl
   clear f23
   show Code.wp _ _ _ a23 w23
   refine wp_ret ?_
   repeat (first | with_reducible refine then_ret ?_ | with_reducible refine block_ret ?_)
   refine ret1 (fn := Try.f40) rfl st23.defers e2 ?_
   exact ⟨congrArg _ (congrArg _ (by unfold fieldsF; (repeat (first | rw [if_neg (by omega)] | rw [if_pos (by omega)])); (try rfl))), st23.ext0⟩
 have hd7 := hc6; try simp only [decide_eq_false_iff_not] at hd7
 refine region_St (bf := [0, 1]) (sp := [det _ 126 _, det _ 124 _]) [ib r0] mixed st22 (by kernel_rfl) ⟨r0, trivial⟩
  ⟨Ob.d fun c => r_eql rfl (c.p e8) rfl,
  Ob.d fun c => r_assign rfl (c.n 0 rfl), trivial⟩ ?_
 intro a24 w24 τ24 st24 f24
 obtain ⟨e1, e2, e8, -⟩ := f24.ks [(1, _), (2, _), (8, _)] ⟨e1, e2, e8, trivial⟩
 have e124 : get a24 124 = (.bool (decide (t.k = 6))) := f24.v 1 rfl
 replace r0 := f24.ib 0 rfl
 clear f24
 show Code.wp _ _ _ a24 w24
 refine wp_cond_split (t := decide (t.k = 6)) e124 (fun hc8 => ?_) (fun hc8 => ?_)
 · have hd8 := hc8; try simp only [decide_eq_true_eq] at hd8
   refine wp_seq ?_
   refine region_St (bf := [0, 1, 3, 7, 15, 31, 63, 127, 255]) (sp := [det _ 127 _, det _ 128 _, det _ 129 _, gdet _ 130 _ _, gdet _ 131 _ _, gdet _ 132 _ _, gdet _ 133 _ _, det _ 134 _, det _ 2 _]) [ib r0] mixed st24 (by kernel_rfl) ⟨r0, trivial⟩
    ⟨Ob.d fun c => r_loadN (vs := [(.int .i64 (t.k)), (.string (t.ch)), (.bool (t.ng)), t.rv.v, (.int .i64 (t.mn)), (.int .i64 (t.mx)), (.bool (t.lz)), t.kv.v]) rfl Try.isAgg25 Try.sizeOf25 ((c.p e1).trans r0.ptr) rfl (fun _ _ hj => (c.ib 0 rfl).cell hj),
    Ob.c fun c => ⟨_, _, (e_call1 rfl rfl Try.call50 (c.n 0 rfl)), bare_c t.k t.ch t.ng t.rv.v t.rows t.mn t.mx t.lz t.kv.v rfl _ (hT.at (st24.ext.trans c.J.ext)).rows⟩,
    Ob.d fun c => r_move rfl (c.n 1 rfl),
    Ob.g 2 true rfl fun c hpc => r_fieldAddr rfl Try.underlying25 rfl rfl Try.sizeOf23 ((c.p e1).trans r0.ptr),
    Ob.g 2 true rfl fun c hpc => r_load1 rfl Try.isAgg23 (c.m 3 rfl hpc) ((c.ib 0 rfl).cell (j := 7) rfl),
    Ob.g 2 true rfl fun c hpc => r_len rfl Try.underlying23 (c.m 4 rfl hpc) (hT.at st24.ext).tl.sl.sl,
    Ob.g 2 true rfl fun c hpc => r_eql rfl (c.m 5 rfl hpc) rfl,
    Ob.d fun c => r_and rfl (c.n 2 rfl) (fun h => c.m 6 rfl h),
    Ob.d fun c => r_assign rfl (c.n 7 rfl), trivial⟩ ?_
   intro a25 w25 τ25 st25 f25
   obtain ⟨e1, e8, -⟩ := f25.ks [(1, _), (8, _)] ⟨e1, e8, trivial⟩
   have e2 : get a25 2 = (.bool ((bareF t.ch t.ng t.rows t.mn t.mx t.lz) && (decide ((t.kids.length : Int) = 1)))) := f25.v 8 rfl
   replace r0 := f25.ib 0 rfl
   clear f25
   show Code.wp _ _ _ a25 w25
   refine wp_ret ?_
   repeat (first | with_reducible refine then_ret ?_ | with_reducible refine block_ret ?_)
   refine ret1 (fn := Try.f40) rfl st25.defers e2 ?_
   exact ⟨congrArg _ (congrArg _ (by unfold fieldsF; (repeat (first | rw [if_neg (by omega)] | rw [if_pos (by omega)])); (try rfl))), st25.ext0⟩
 have hd8 := hc8; try simp only [decide_eq_false_iff_not] at hd8
 refine wp_seq ?_
 refine wp_seq ?_
 refine region_St (bf := [0, 1]) (sp := [det _ 136 _, det _ 135 _]) [ib r0] mixed st24 (by kernel_rfl) ⟨r0, trivial⟩
  ⟨Ob.d fun c => r_eql rfl (c.p e8) rfl,
  Ob.d fun c => r_assign rfl (c.n 0 rfl), trivial⟩ ?_
 intro a26 w26 τ26 st26 f26
 obtain ⟨e1, e2, e8, -⟩ := f26.ks [(1, _), (2, _), (8, _)] ⟨e1, e2, e8, trivial⟩
 have e135 : get a26 135 = (.bool (decide (t.k = 3))) := f26.v 1 rfl
 replace r0 := f26.ib 0 rfl
 clear f26
 show Code.wp _ _ _ a26 w26
 refine wp_cond_split (t := decide (t.k = 3)) e135 (fun hc9 => ?_) (fun hc9 => ?_)
 · have hd9 := hc9; try simp only [decide_eq_true_eq] at hd9
   refine wp_skip ?_
   show Code.wp _ _ _ a26 w26
   refine wp_cond_true (e135.trans (congrArg _ hc9)) ?_
   refine wp_seq ?_
   refine region_St (bf := [0, 1, 3, 7, 15, 31, 63, 127, 255]) (sp := [det _ 141 _, det _ 142 _, det _ 143 _, gdet _ 144 _ _, gdet _ 145 _ _, gdet _ 146 _ _, gdet _ 147 _ _, det _ 148 _, det _ 2 _]) [ib r0] mixed st26 (by kernel_rfl) ⟨r0, trivial⟩
    ⟨Ob.d fun c => r_loadN (vs := [(.int .i64 (t.k)), (.string (t.ch)), (.bool (t.ng)), t.rv.v, (.int .i64 (t.mn)), (.int .i64 (t.mx)), (.bool (t.lz)), t.kv.v]) rfl Try.isAgg25 Try.sizeOf25 ((c.p e1).trans r0.ptr) rfl (fun _ _ hj => (c.ib 0 rfl).cell hj),
    Ob.c fun c => ⟨_, _, (e_call1 rfl rfl Try.call50 (c.n 0 rfl)), bare_c t.k t.ch t.ng t.rv.v t.rows t.mn t.mx t.lz t.kv.v rfl _ (hT.at (st26.ext.trans c.J.ext)).rows⟩,
    Ob.d fun c => r_move rfl (c.n 1 rfl),
    Ob.g 2 true rfl fun c hpc => r_fieldAddr rfl Try.underlying25 rfl rfl Try.sizeOf23 ((c.p e1).trans r0.ptr),
    Ob.g 2 true rfl fun c hpc => r_load1 rfl Try.isAgg23 (c.m 3 rfl hpc) ((c.ib 0 rfl).cell (j := 7) rfl),
    Ob.g 2 true rfl fun c hpc => r_len rfl Try.underlying23 (c.m 4 rfl hpc) (hT.at st26.ext).tl.sl.sl,
    Ob.g 2 true rfl fun c hpc => r_eql rfl (c.m 5 rfl hpc) rfl,
    Ob.d fun c => r_and rfl (c.n 2 rfl) (fun h => c.m 6 rfl h),
    Ob.d fun c => r_assign rfl (c.n 7 rfl), trivial⟩ ?_
   intro a27 w27 τ27 st27 f27
   have e2 : get a27 2 = (.bool ((bareF t.ch t.ng t.rows t.mn t.mx t.lz) && (decide ((t.kids.length : Int) = 0)))) := f27.v 8 rfl
   clear f27
   show Code.wp _ _ _ a27 w27
   refine wp_ret ?_
   repeat (first | with_reducible refine then_ret ?_ | with_reducible refine block_ret ?_)
   refine ret1 (fn := Try.f40) rfl st27.defers e2 ?_
   exact ⟨congrArg _ (congrArg _ (by unfold fieldsF; (repeat (first | rw [if_neg (by omega)] | rw [if_pos (by omega)])); (try rfl))), st27.ext0⟩
 have hd10 := hc9; try simp only [decide_eq_false_iff_not] at hd10
 refine wp_seq ?_
 refine region_St (bf := [0, 1]) (sp := [det _ 137 _, det _ 135 _]) [ib r0] mixed st26 (by kernel_rfl) ⟨r0, trivial⟩
  ⟨Ob.d fun c => r_eql rfl (c.p e8) rfl,
  Ob.d fun c => r_assign rfl (c.n 0 rfl), trivial⟩ ?_
 intro a28 w28 τ28 st28 f28
 obtain ⟨e1, e2, e8, -⟩ := f28.ks [(1, _), (2, _), (8, _)] ⟨e1, e2, e8, trivial⟩
 have e135 : get a28 135 = (.bool (decide (t.k = 8))) := f28.v 1 rfl
 replace r0 := f28.ib 0 rfl
 clear f28
 show Code.wp _ _ _ a28 w28
 refine wp_cond_split (t := decide (t.k = 8)) e135 (fun hc11 => ?_) (fun hc11 => ?_)
 · have hd11 := hc11; try simp only [decide_eq_true_eq] at hd11
   refine wp_skip ?_
   show Code.wp _ _ _ a28 w28
   refine wp_cond_true (e135.trans (congrArg _ hc11)) ?_
   refine wp_seq ?_
   refine region_St (bf := [0, 1, 3, 7, 15, 31, 63, 127, 255]) (sp := [det _ 141 _, det _ 142 _, det _ 143 _, gdet _ 144 _ _, gdet _ 145 _ _, gdet _ 146 _ _, gdet _ 147 _ _, det _ 148 _, det _ 2 _]) [ib r0] mixed st28 (by kernel_rfl) ⟨r0, trivial⟩
    ⟨Ob.d fun c => r_loadN (vs := [(.int .i64 (t.k)), (.string (t.ch)), (.bool (t.ng)), t.rv.v, (.int .i64 (t.mn)), (.int .i64 (t.mx)), (.bool (t.lz)), t.kv.v]) rfl Try.isAgg25 Try.sizeOf25 ((c.p e1).trans r0.ptr) rfl (fun _ _ hj => (c.ib 0 rfl).cell hj),
    Ob.c fun c => ⟨_, _, (e_call1 rfl rfl Try.call50 (c.n 0 rfl)), bare_c t.k t.ch t.ng t.rv.v t.rows t.mn t.mx t.lz t.kv.v rfl _ (hT.at (st28.ext.trans c.J.ext)).rows⟩,
    Ob.d fun c => r_move rfl (c.n 1 rfl),
    Ob.g 2 true rfl fun c hpc => r_fieldAddr rfl Try.underlying25 rfl rfl Try.sizeOf23 ((c.p e1).trans r0.ptr),
    Ob.g 2 true rfl fun c hpc => r_load1 rfl Try.isAgg23 (c.m 3 rfl hpc) ((c.ib 0 rfl).cell (j := 7) rfl),
    Ob.g 2 true rfl fun c hpc => r_len rfl Try.underlying23 (c.m 4 rfl hpc) (hT.at st28.ext).tl.sl.sl,
    Ob.g 2 true rfl fun c hpc => r_eql rfl (c.m 5 rfl hpc) rfl,
    Ob.d fun c => r_and rfl (c.n 2 rfl) (fun h => c.m 6 rfl h),
    Ob.d fun c => r_assign rfl (c.n 7 rfl), trivial⟩ ?_
   intro a29 w29 τ29 st29 f29
   have e2 : get a29 2 = (.bool ((bareF t.ch t.ng t.rows t.mn t.mx t.lz) && (decide ((t.kids.length : Int) = 0)))) := f29.v 8 rfl
   clear f29
   show Code.wp _ _ _ a29 w29
   refine wp_ret ?_
   repeat (first | with_reducible refine then_ret ?_ | with_reducible refine block_ret ?_)
   refine ret1 (fn := Try.f40) rfl st29.defers e2 ?_
   exact ⟨congrArg _ (congrArg _ (by unfold fieldsF; (repeat (first | rw [if_neg (by omega)] | rw [if_pos (by omega)])); (try rfl))), st29.ext0⟩
 have hd12 := hc11; try simp only [decide_eq_false_iff_not] at hd12
 refine wp_seq ?_
 refine region_St (bf := [0, 1]) (sp := [det _ 138 _, det _ 135 _]) [ib r0] mixed st28 (by kernel_rfl) ⟨r0, trivial⟩
  ⟨Ob.d fun c => r_eql rfl (c.p e8) rfl,
  Ob.d fun c => r_assign rfl (c.n 0 rfl), trivial⟩ ?_
 intro a30 w30 τ30 st30 f30
 obtain ⟨e1, e2, e8, -⟩ := f30.ks [(1, _), (2, _), (8, _)] ⟨e1, e2, e8, trivial⟩
 have e135 : get a30 135 = (.bool (decide (t.k = 9))) := f30.v 1 rfl
 replace r0 := f30.ib 0 rfl
 clear f30
 show Code.wp _ _ _ a30 w30
 refine wp_cond_split (t := decide (t.k = 9)) e135 (fun hc13 => ?_) (fun hc13 => ?_)
 · have hd13 := hc13; try simp only [decide_eq_true_eq] at hd13
   refine wp_skip ?_
   show Code.wp _ _ _ a30 w30
   refine wp_cond_true (e135.trans (congrArg _ hc13)) ?_
   refine wp_seq ?_
   refine region_St (bf := [0, 1, 3, 7, 15, 31, 63, 127, 255]) (sp := [det _ 141 _, det _ 142 _, det _ 143 _, gdet _ 144 _ _, gdet _ 145 _ _, gdet _ 146 _ _, gdet _ 147 _ _, det _ 148 _, det _ 2 _]) [ib r0] mixed st30 (by kernel_rfl) ⟨r0, trivial⟩
    ⟨Ob.d fun c => r_loadN (vs := [(.int .i64 (t.k)), (.string (t.ch)), (.bool (t.ng)), t.rv.v, (.int .i64 (t.mn)), (.int .i64 (t.mx)), (.bool (t.lz)), t.kv.v]) rfl Try.isAgg25 Try.sizeOf25 ((c.p e1).trans r0.ptr) rfl (fun _ _ hj => (c.ib 0 rfl).cell hj),
    Ob.c fun c => ⟨_, _, (e_call1 rfl rfl Try.call50 (c.n 0 rfl)), bare_c t.k t.ch t.ng t.rv.v t.rows t.mn t.mx t.lz t.kv.v rfl _ (hT.at (st30.ext.trans c.J.ext)).rows⟩,
    Ob.d fun c => r_move rfl (c.n 1 rfl),
    Ob.g 2 true rfl fun c hpc => r_fieldAddr rfl Try.underlying25 rfl rfl Try.sizeOf23 ((c.p e1).trans r0.ptr),
    Ob.g 2 true rfl fun c hpc => r_load1 rfl Try.isAgg23 (c.m 3 rfl hpc) ((c.ib 0 rfl).cell (j := 7) rfl),
    Ob.g 2 true rfl fun c hpc => r_len rfl Try.underlying23 (c.m 4 rfl hpc) (hT.at st30.ext).tl.sl.sl,
    Ob.g 2 true rfl fun c hpc => r_eql rfl (c.m 5 rfl hpc) rfl,
    Ob.d fun c => r_and rfl (c.n 2 rfl) (fun h => c.m 6 rfl h),
    Ob.d fun c => r_assign rfl (c.n 7 rfl), trivial⟩ ?_
   intro a31 w31 τ31 st31 f31
   have e2 : get a31 2 = (.bool ((bareF t.ch t.ng t.rows t.mn t.mx t.lz) && (decide ((t.kids.length : Int) = 0)))) := f31.v 8 rfl
   clear f31
   show Code.wp _ _ _ a31 w31
   refine wp_ret ?_
   repeat (first | with_reducible refine then_ret ?_ | with_reducible refine block_ret ?_)
   refine ret1 (fn := Try.f40) rfl st31.defers e2 ?_
   exact ⟨congrArg _ (congrArg _ (by unfold fieldsF; (repeat (first | rw [if_neg (by omega)] | rw [if_pos (by omega)])); (try rfl))), st31.ext0⟩
 have hd14 := hc13; try simp only [decide_eq_false_iff_not] at hd14
 refine wp_seq ?_
 refine region_St (bf := [0, 1]) (sp := [det _ 139 _, det _ 135 _]) [ib r0] mixed st30 (by kernel_rfl) ⟨r0, trivial⟩
  ⟨Ob.d fun c => r_eql rfl (c.p e8) rfl,
  Ob.d fun c => r_assign rfl (c.n 0 rfl), trivial⟩ ?_
 intro a32 w32 τ32 st32 f32
 obtain ⟨e1, e2, e8, -⟩ := f32.ks [(1, _), (2, _), (8, _)] ⟨e1, e2, e8, trivial⟩
 have e135 : get a32 135 = (.bool (decide (t.k = 10))) := f32.v 1 rfl
 replace r0 := f32.ib 0 rfl
 clear f32
 show Code.wp _ _ _ a32 w32
 refine wp_cond_split (t := decide (t.k = 10)) e135 (fun hc15 => ?_) (fun hc15 => ?_)
 · have hd15 := hc15; try simp only [decide_eq_true_eq] at hd15
   refine wp_skip ?_
   show Code.wp _ _ _ a32 w32
   refine wp_cond_true (e135.trans (congrArg _ hc15)) ?_
   refine wp_seq ?_
   refine region_St (bf := [0, 1, 3, 7, 15, 31, 63, 127, 255]) (sp := [det _ 141 _, det _ 142 _, det _ 143 _, gdet _ 144 _ _, gdet _ 145 _ _, gdet _ 146 _ _, gdet _ 147 _ _, det _ 148 _, det _ 2 _]) [ib r0] mixed st32 (by kernel_rfl) ⟨r0, trivial⟩
    ⟨Ob.d fun c => r_loadN (vs := [(.int .i64 (t.k)), (.string (t.ch)), (.bool (t.ng)), t.rv.v, (.int .i64 (t.mn)), (.int .i64 (t.mx)), (.bool (t.lz)), t.kv.v]) rfl Try.isAgg25 Try.sizeOf25 ((c.p e1).trans r0.ptr) rfl (fun _ _ hj => (c.ib 0 rfl).cell hj),
    Ob.c fun c => ⟨_, _, (e_call1 rfl rfl Try.call50 (c.n 0 rfl)), bare_c t.k t.ch t.ng t.rv.v t.rows t.mn t.mx t.lz t.kv.v rfl _ (hT.at (st32.ext.trans c.J.ext)).rows⟩,
    Ob.d fun c => r_move rfl (c.n 1 rfl),
    Ob.g 2 true rfl fun c hpc => r_fieldAddr rfl Try.underlying25 rfl rfl Try.sizeOf23 ((c.p e1).trans r0.ptr),
    Ob.g 2 true rfl fun c hpc => r_load1 rfl Try.isAgg23 (c.m 3 rfl hpc) ((c.ib 0 rfl).cell (j := 7) rfl),
    Ob.g 2 true rfl fun c hpc => r_len rfl Try.underlying23 (c.m 4 rfl hpc) (hT.at st32.ext).tl.sl.sl,
    Ob.g 2 true rfl fun c hpc => r_eql rfl (c.m 5 rfl hpc) rfl,
    Ob.d fun c => r_and rfl (c.n 2 rfl) (fun h => c.m 6 rfl h),
    Ob.d fun c => r_assign rfl (c.n 7 rfl), trivial⟩ ?_
   intro a33 w33 τ33 st33 f33
   have e2 : get a33 2 = (.bool ((bareF t.ch t.ng t.rows t.mn t.mx t.lz) && (decide ((t.kids.length : Int) = 0)))) := f33.v 8 rfl
   clear f33
   show Code.wp _ _ _ a33 w33
   refine wp_ret ?_
   repeat (first | with_reducible refine then_ret ?_ | with_reducible refine block_ret ?_)
   refine ret1 (fn := Try.f40) rfl st33.defers e2 ?_
   exact ⟨congrArg _ (congrArg _ (by unfold fieldsF; (repeat (first | rw [if_neg (by omega)] | rw [if_pos (by omega)])); (try rfl))), st33.ext0⟩
 have hd16 := hc15; try simp only [decide_eq_false_iff_not] at hd16
 refine region_St (bf := [0, 1]) (sp := [det _ 140 _, det _ 135 _]) [ib r0] mixed st32 (by kernel_rfl) ⟨r0, trivial⟩
  ⟨Ob.d fun c => r_eql rfl (c.p e8) rfl,
  Ob.d fun c => r_assign rfl (c.n 0 rfl), trivial⟩ ?_
 intro a34 w34 τ34 st34 f34
 obtain ⟨e1, e2, -⟩ := f34.ks [(1, _), (2, _)] ⟨e1, e2, trivial⟩
 have e135 : get a34 135 = (.bool (decide (t.k = 11))) := f34.v 1 rfl
 replace r0 := f34.ib 0 rfl
 clear f34
 show Code.wp _ _ _ a34 w34
 refine wp_cond_split (t := decide (t.k = 11)) e135 (fun hc17 => ?_) (fun hc17 => ?_)
 · have hd17 := hc17; try simp only [decide_eq_true_eq] at hd17
   refine wp_seq ?_
   refine region_St (bf := [0, 1, 3, 7, 15, 31, 63, 127, 255]) (sp := [det _ 141 _, det _ 142 _, det _ 143 _, gdet _ 144 _ _, gdet _ 145 _ _, gdet _ 146 _ _, gdet _ 147 _ _, det _ 148 _, det _ 2 _]) [ib r0] mixed st34 (by kernel_rfl) ⟨r0, trivial⟩
    ⟨Ob.d fun c => r_loadN (vs := [(.int .i64 (t.k)), (.string (t.ch)), (.bool (t.ng)), t.rv.v, (.int .i64 (t.mn)), (.int .i64 (t.mx)), (.bool (t.lz)), t.kv.v]) rfl Try.isAgg25 Try.sizeOf25 ((c.p e1).trans r0.ptr) rfl (fun _ _ hj => (c.ib 0 rfl).cell hj),
    Ob.c fun c => ⟨_, _, (e_call1 rfl rfl Try.call50 (c.n 0 rfl)), bare_c t.k t.ch t.ng t.rv.v t.rows t.mn t.mx t.lz t.kv.v rfl _ (hT.at (st34.ext.trans c.J.ext)).rows⟩,
    Ob.d fun c => r_move rfl (c.n 1 rfl),
    Ob.g 2 true rfl fun c hpc => r_fieldAddr rfl Try.underlying25 rfl rfl Try.sizeOf23 ((c.p e1).trans r0.ptr),
    Ob.g 2 true rfl fun c hpc => r_load1 rfl Try.isAgg23 (c.m 3 rfl hpc) ((c.ib 0 rfl).cell (j := 7) rfl),
    Ob.g 2 true rfl fun c hpc => r_len rfl Try.underlying23 (c.m 4 rfl hpc) (hT.at st34.ext).tl.sl.sl,
    Ob.g 2 true rfl fun c hpc => r_eql rfl (c.m 5 rfl hpc) rfl,
    Ob.d fun c => r_and rfl (c.n 2 rfl) (fun h => c.m 6 rfl h),
    Ob.d fun c => r_assign rfl (c.n 7 rfl), trivial⟩ ?_
   intro a35 w35 τ35 st35 f35
   have e2 : get a35 2 = (.bool ((bareF t.ch t.ng t.rows t.mn t.mx t.lz) && (decide ((t.kids.length : Int) = 0)))) := f35.v 8 rfl
   clear f35
   show Code.wp _ _ _ a35 w35
   refine wp_ret ?_
   repeat (first | with_reducible refine then_ret ?_ | with_reducible refine block_ret ?_)
   refine ret1 (fn := Try.f40) rfl st35.defers e2 ?_
   exact ⟨congrArg _ (congrArg _ (by unfold fieldsF; (repeat (first | rw [if_neg (by omega)] | rw [if_pos (by omega)])); (try rfl))), st35.ext0⟩
 have hd17 := hc17; try simp only [decide_eq_false_iff_not] at hd17
 refine wp_skip ?_
 show _
 show Code.wp _ _ _ a34 w34
 refine wp_seq ?_
 refine region_St (bf := [0]) (sp := [det _ 2 _]) [ib r0] mixed st34 (by kernel_rfl) ⟨r0, trivial⟩
  ⟨Ob.d fun c => r_assign rfl rfl, trivial⟩ ?_
 intro a36 w36 τ36 st36 f36
 have e2 : get a36 2 = (.bool (false)) := f36.v 0 rfl
 clear f36
 show Code.wp _ _ _ a36 w36
 refine wp_ret ?_
 repeat (first | with_reducible refine then_ret ?_ | with_reducible refine block_ret ?_)
 refine ret1 (fn := Try.f40) rfl st36.defers e2 ?_
 exact ⟨congrArg _ (congrArg _ (by unfold fieldsF; (repeat (first | rw [if_neg (by omega)] | rw [if_pos (by omega)])); (try rfl))), st36.ext0⟩
end B
end Go.Proofs.Ytocmchlhbniloaa
namespace Go.Proofs.Ytocmchlhbniloaa
namespace B
open Go.RowKit
open Srt
def fitsL (l : List (Int → Int → Int × Bool)) (n d : Int) : Int × Bool := match l with
  | [] => (n, true)
  | g :: l => if (g n d).2 = true then fitsL l (g n d).1 d else ((g n d).1, false)
def depthF (t : Tr) (d : Int) : Int := if grpB t = true then d - 1 else d
def fitsF : Tr → Int → Int → Int × Bool := foldF fun t l n d => if ((decide (n < 1) || decide (depthF t d < 0)) || !fieldsF t) = true then (n, false) else fitsL l (n - 1) (depthF t d)
theorem fitsF_eq (t : Tr) (n d : Int) : fitsF t n d = if ((decide (n < 1) || decide (depthF t d < 0)) || !fieldsF t) = true then (n, false) else fitsL (t.kids.map fitsF) (n - 1) (depthF t d) :=
  congrFun (congrFun (foldF_eq (fun t l n d => if ((decide (n < 1) || decide (depthF t d < 0)) || !fieldsF t) = true then (n, false) else fitsL l (n - 1) (depthF t d)) t) n) d
theorem fitsF_range (t : Tr) : ∀ {n d : Int}, 0 ≤ n → 0 ≤ (fitsF t n d).1 ∧ (fitsF t n d).1 ≤ n := by
  induction t using Tr.ind with
  | h t ih =>
    intro n d hn
    have hK : ∀ ks : List Tr, (∀ k ∈ ks, k ∈ t.kids) → ∀ m d, 0 ≤ m → 0 ≤ (fitsL (ks.map fitsF) m d).1 ∧ (fitsL (ks.map fitsF) m d).1 ≤ m := by
      intro ks
      induction ks with
      | nil => intro _ m d h; exact ⟨h, Int.le_refl _⟩
      | cons k ks ih2 =>
        intro hm m d h
        have h1 := ih k (hm k (by simp)) (n := m) (d := d) h
        rw [List.map_cons, fitsL]
        split
        · have := ih2 (fun x hx => hm x (by simp [hx])) _ d h1.1
          omega
        · exact h1
    rw [fitsF_eq]
    split
    · exact ⟨hn, Int.le_refl _⟩
    · rename_i hc
      simp only [Bool.or_eq_true, decide_eq_true_eq, not_or] at hc
      have := hK t.kids (fun _ h => h) (n - 1) (depthF t d) (by omega)
      omega
theorem fits_no {t : Tr} {n d : Int} (h : ((decide (n < 1) || decide (depthF t d < 0)) || !fieldsF t) = true) : fitsF t n d = (n, false) := by rw [fitsF_eq, if_pos h]
theorem fits_bad {t : Tr} {n d m : Int} {k : Nat} (h : ((decide (n < 1) || decide (depthF t d < 0)) || !fieldsF t) = false) (hq : fitsL (t.kids.map fitsF) (n - 1) (depthF t d) = fitsL ((t.kids.drop k).map fitsF) m (depthF t d)) (hk : k < t.kids.length) (hb : (fitsF (nth t.kids (k : Int)) m (depthF t d)).2 = false) : fitsF t n d = ((fitsF (nth t.kids (k : Int)) m (depthF t d)).1, false) := by
  rw [fitsF_eq, if_neg (by rw [h]; decide), hq, drop_cons hk, List.map_cons, fitsL, if_neg (by rw [hb]; decide)]
theorem fits_end {t : Tr} {n d m : Int} {k : Nat} (h : ((decide (n < 1) || decide (depthF t d < 0)) || !fieldsF t) = false) (hq : fitsL (t.kids.map fitsF) (n - 1) (depthF t d) = fitsL ((t.kids.drop k).map fitsF) m (depthF t d)) (hk : t.kids.length ≤ k) : fitsF t n d = (m, true) := by
  rw [fitsF_eq, if_neg (by rw [h]; decide), hq, List.drop_of_length_le hk]; rfl
theorem fits_next {t : Tr} {n d m : Int} {k : Nat} (hq : fitsL (t.kids.map fitsF) (n - 1) (depthF t d) = fitsL ((t.kids.drop k).map fitsF) m (depthF t d)) (hk : k < t.kids.length) (hb : (fitsF (nth t.kids (k : Int)) m (depthF t d)).2 = true) : fitsL (t.kids.map fitsF) (n - 1) (depthF t d) = fitsL ((t.kids.drop (k + 1)).map fitsF) (fitsF (nth t.kids (k : Int)) m (depthF t d)).1 (depthF t d) := by
  rw [hq, drop_cons hk, List.map_cons, fitsL, if_pos hb]
set_option maxRecDepth 100000 in
theorem fits_step (t : Tr) (ih : ∀ k ∈ t.kids, ∀ (n d : Int) (w : World), TrS w k → wtF k ≤ 1000000 → 0 ≤ n ∧ n ≤ 1000 → 0 ≤ d ∧ d ≤ 1000 → Calls Try.prog 34 #[k.v, .int .i64 n, .int .i64 d] w (fun e w' => e = .returned (.tuple #[.int .i64 (fitsF k n d).1, .bool (fitsF k n d).2]) ∧ Ext none' w w')) (n d : Int) (w : World) (hT : TrS w t) (hP : wtF t ≤ 1000000) (hn : 0 ≤ n ∧ n ≤ 1000) (hd : 0 ≤ d ∧ d ≤ 1000) : Calls Try.prog 34 #[t.v, .int .i64 n, .int .i64 d] w (fun e w' => e = .returned (.tuple #[.int .i64 (fitsF t n d).1, .bool (fitsF t n d).2]) ∧ Ext none' w w') := by
 refine enter (n := 49) Try.func34 rfl rfl (Nat.le_of_ble_eq_true rfl) ?_
 intro a0 τ0 ha st0
 have e0 : get a0 0 = (.agg #[(.int .i64 (t.k)), (.string (t.ch)), (.bool (t.ng)), t.rv.v, (.int .i64 (t.mn)), (.int .i64 (t.mx)), (.bool (t.lz)), t.kv.v]) := ha 0 _ rfl
 have e1 : get a0 1 = (.int .i64 (n)) := ha 1 _ rfl
 have e2 : get a0 2 = (.int .i64 (d)) := ha 2 _ rfl
 clear ha
 have hle := hT.kids.le
 have hwt := wtF_bound t
 have hpk : ∀ k : Nat, k < t.kids.length → wtF (nth t.kids (k : Int)) ≤ 1000000 := fun k h_ => by have h1_ := wtF_kid (nth_memI (xs := t.kids) (i := (k : Int)) (by omega) (by omega)); omega
 refine wp_seq ?_
 refine region_St (bf := [0, 0, 2]) (sp := [box _ _ 0 3 [(.int .i64 (t.k)), (.string (t.ch)), (.bool (t.ng)), t.rv.v, (.int .i64 (t.mn)), (.int .i64 (t.mx)), (.bool (t.lz)), t.kv.v], det _ 6 _, det _ 7 _]) [] mixed st0 (by kernel_rfl) trivial
  ⟨Ob.box (v := (.agg #[(.int .i64 (t.k)), (.string (t.ch)), (.bool (t.ng)), t.rv.v, (.int .i64 (t.mn)), (.int .i64 (t.mx)), (.bool (t.lz)), t.kv.v])) rfl rfl rfl rfl rfl (fun _ _ _ _ c => (c.p e0)),
  Ob.d fun c => r_assign rfl rfl,
  Ob.d fun c => r_assign rfl rfl, trivial⟩ ?_
 intro a1 w1 τ1 st1 f1
 obtain ⟨b1x3, e3⟩ : ∃ b, get a1 3 = b := ⟨_, rfl⟩
 obtain ⟨e1, e2, -⟩ := f1.ks [(1, _), (2, _)] ⟨e1, e2, trivial⟩
 have e6 : get a1 6 = (.int .i64 (0)) := f1.v 1 rfl
 have e7 : get a1 7 = (.bool (false)) := f1.v 2 rfl
 have r0 : boxR 25 [(.int .i64 (t.k)), (.string (t.ch)), (.bool (t.ng)), t.rv.v, (.int .i64 (t.mn)), (.int .i64 (t.mx)), (.bool (t.lz)), t.kv.v] (τ1 0) b1x3 w1 := f1.rb 0 e3 rfl
 clear f1
 show Code.wp _ _ _ a1 w1
 refine wp_seq ?_
 refine wp_seq ?_
 refine region_St (bf := [0, 1, 3]) (sp := [det _ 11 _, det _ 12 _, det _ 13 _]) [ib r0] mixed st1 (by kernel_rfl) ⟨r0, trivial⟩
  ⟨Ob.d fun c => r_fieldAddr rfl Try.underlying25 rfl rfl Try.sizeOf3 ((c.p e3).trans r0.ptr),
  Ob.d fun c => r_load1 rfl Try.isAgg3 (c.n 0 rfl) ((c.ib 0 rfl).cell (j := 0) rfl),
  Ob.c fun c => ⟨_, _, (e_call1 rfl rfl Try.call35 (c.n 1 rfl)), group_c t.k _⟩, trivial⟩ ?_
 intro a2 w2 τ2 st2 f2
 obtain ⟨e1, e2, e3, e6, e7, -⟩ := f2.ks [(1, _), (2, _), (3, _), (6, _), (7, _)] ⟨e1, e2, e3, e6, e7, trivial⟩
 have e13 : get a2 13 = (.bool (decide (t.k = 5) || decide (t.k = 6))) := f2.v 2 rfl
 replace r0 := f2.ib 0 rfl
 clear f2
 show Code.wp _ _ _ a2 w2
 refine wp_cond_split (t := decide (t.k = 5) || decide (t.k = 6)) e13 (fun hc1 => ?_) (fun hc1 => ?_)
 · have hd1 := hc1; try simp only [Bool.or_eq_true, decide_eq_true_eq] at hd1
   refine region_St (bf := [0, 1, 3]) (sp := [det _ 14 _, det _ 15 _, det _ 2 _]) [ib r0] mixed st2 (by kernel_rfl) ⟨r0, trivial⟩
    ⟨Ob.d fun c => r_move rfl (c.p e2),
    Ob.d fun c => r_sub rfl (c.n 0 rfl) rfl (by omega),
    Ob.d fun c => r_assign rfl (c.n 1 rfl), trivial⟩ ?_
   intro a3 w3 τ3 st3 f3
   obtain ⟨e1, e3, e6, e7, -⟩ := f3.ks [(1, _), (3, _), (6, _), (7, _)] ⟨e1, e3, e6, e7, trivial⟩
   have e2 : get a3 2 = (.int .i64 (d - 1)) := f3.v 2 rfl
   replace r0 := f3.ib 0 rfl
   clear f3
   show Code.wp _ _ _ a3 w3
   refine wp_seq ?_
   refine wp_seq ?_
   have hdp : d - 1 = depthF t d := by unfold depthF grpB; first | (rw [if_pos (by simpa using (by assumption))]) | (rw [if_neg (by simpa using (by assumption))])
   replace e2 : get a3 2 = .int .i64 (depthF t d) := e2.trans (int_eq hdp)
   have hdr : depthF t d ≤ 1000 ∧ -1 ≤ depthF t d := by unfold depthF; split <;> omega
   refine region_St (bf := [0, 1, 3, 7, 15, 31, 63, 127, 255, 511, 1023]) (sp := [det _ 16 _, det _ 17 _, det _ 18 _, gdet _ 19 _ _, gdet _ 20 _ _, det _ 21 _, det _ 22 _, gdet _ 23 _ _, gdet _ 24 _ _, gdet _ 25 _ _, det _ 26 _]) [ib r0] mixed st3 (by kernel_rfl) ⟨r0, trivial⟩
    ⟨Ob.d fun c => r_move rfl (c.p e1),
    Ob.d fun c => r_lss rfl (c.n 0 rfl) rfl,
    Ob.d fun c => r_move rfl (c.n 1 rfl),
    Ob.g 2 false rfl fun c hpc => r_move rfl (c.p e2),
    Ob.g 2 false rfl fun c hpc => r_lss rfl (c.m 3 rfl hpc) rfl,
    Ob.d fun c => r_or rfl (c.n 2 rfl) (fun h => c.m 4 rfl h),
    Ob.d fun c => r_move rfl (c.n 5 rfl),
    Ob.g 6 false rfl fun c hpc => r_loadN (vs := [(.int .i64 (t.k)), (.string (t.ch)), (.bool (t.ng)), t.rv.v, (.int .i64 (t.mn)), (.int .i64 (t.mx)), (.bool (t.lz)), t.kv.v]) rfl Try.isAgg25 Try.sizeOf25 ((c.p e3).trans r0.ptr) rfl (fun _ _ hj => (c.ib 0 rfl).cell hj),
    Ob.gc 6 false rfl fun c hpc => ⟨_, _, (e_call1 rfl rfl Try.call40 (c.m 7 rfl hpc)), fields_c t _ (hT.at (st3.ext.trans c.J.ext)) (by have hq0 := hpc; (try simp only [Bool.or_eq_false_iff, decide_eq_false_iff_not, Int.not_lt] at hq0); omega)⟩,
    Ob.g 6 false rfl fun c hpc => r_not rfl (c.m 8 rfl hpc),
    Ob.d fun c => r_or rfl (c.n 6 rfl) (fun h => c.m 9 rfl h), trivial⟩ ?_
   intro a4 w4 τ4 st4 f4
   obtain ⟨e1, e2, e3, e6, e7, -⟩ := f4.ks [(1, _), (2, _), (3, _), (6, _), (7, _)] ⟨e1, e2, e3, e6, e7, trivial⟩
   have e26 : get a4 26 = (.bool (((decide (n < 1)) || (decide (depthF t d < 0))) || (!(fieldsF t)))) := f4.v 10 rfl
   replace r0 := f4.ib 0 rfl
   clear f4
   show Code.wp _ _ _ a4 w4
   refine wp_cond_split (t := ((decide (n < 1)) || (decide (depthF t d < 0))) || (!(fieldsF t))) e26 (fun hc2 => ?_) (fun hc2 => ?_)
   · have hd2 := hc2; try simp only [Bool.or_eq_true, Bool.or_eq_false_iff, Bool.not_eq_true', Bool.not_eq_false', decide_eq_true_eq, decide_eq_false_iff_not, Int.not_lt] at hd2
     refine wp_seq ?_
     have hcd := hc2
     refine region_St (bf := [0, 1, 3]) (sp := [det _ 27 _, det _ 6 _, det _ 7 _]) [ib r0] mixed st4 (by kernel_rfl) ⟨r0, trivial⟩
      ⟨Ob.d fun c => r_move rfl (c.p e1),
      Ob.d fun c => r_assign rfl (c.n 0 rfl),
      Ob.d fun c => r_assign rfl rfl, trivial⟩ ?_
     intro a5 w5 τ5 st5 f5
     obtain ⟨e1, e2, e3, -⟩ := f5.ks [(1, _), (2, _), (3, _)] ⟨e1, e2, e3, trivial⟩
     have e6 : get a5 6 = (.int .i64 (n)) := f5.v 1 rfl
     have e7 : get a5 7 = (.bool (false)) := f5.v 2 rfl
     replace r0 := f5.ib 0 rfl
     clear f5
     show Code.wp _ _ _ a5 w5
     refine wp_ret ?_
     repeat (first | with_reducible refine then_ret ?_ | with_reducible refine block_ret ?_)
     refine ret2 (fn := Try.f34) rfl st5.defers e6 e7 ?_
     exact ⟨congrArg _ (show (Value.tuple #[(.int .i64 (n)), (.bool (false))]) = (.tuple #[.int .i64 (fitsF t n d).1, .bool (fitsF t n d).2]) from by rw [fits_no hcd]), st5.ext0⟩
   have hd2 := hc2; try simp only [Bool.or_eq_true, Bool.or_eq_false_iff, Bool.not_eq_true', Bool.not_eq_false', decide_eq_true_eq, decide_eq_false_iff_not, Int.not_lt] at hd2
   refine wp_skip ?_
   show Code.wp _ _ _ a4 w4
   refine wp_seq ?_
   have hcd : ((decide (n < 1) || decide (depthF t d < 0)) || !fieldsF t) = false := by assumption
   have hce := hcd
   simp only [Bool.or_eq_false_iff, decide_eq_false_iff_not, Int.not_lt] at hce
   refine region_St (bf := [0, 1, 3]) (sp := [det _ 28 _, det _ 29 _, det _ 1 _]) [ib r0] mixed st4 (by kernel_rfl) ⟨r0, trivial⟩
    ⟨Ob.d fun c => r_move rfl (c.p e1),
    Ob.d fun c => r_sub rfl (c.n 0 rfl) rfl (by omega),
    Ob.d fun c => r_assign rfl (c.n 1 rfl), trivial⟩ ?_
   intro a6 w6 τ6 st6 f6
   obtain ⟨e2, e3, e6, e7, -⟩ := f6.ks [(2, _), (3, _), (6, _), (7, _)] ⟨e2, e3, e6, e7, trivial⟩
   have e1 : get a6 1 = (.int .i64 (n - 1)) := f6.v 2 rfl
   replace r0 := f6.ib 0 rfl
   clear f6
   show Code.wp _ _ _ a6 w6
   refine wp_seq ?_
   refine wp_seq ?_
   refine region_St (bf := [0, 1, 3, 0]) (sp := [det _ 30 _, det _ 31 _, det _ 32 _, det _ 33 _]) [ib r0] mixed st6 (by kernel_rfl) ⟨r0, trivial⟩
    ⟨Ob.d fun c => r_fieldAddr rfl Try.underlying25 rfl rfl Try.sizeOf23 ((c.p e3).trans r0.ptr),
    Ob.d fun c => r_load1 rfl Try.isAgg23 (c.n 0 rfl) ((c.ib 0 rfl).cell (j := 7) rfl),
    Ob.d fun c => r_len rfl Try.underlying23 (c.n 1 rfl) (hT.at st6.ext).tl.sl.sl,
    Ob.d fun c => r_move rfl rfl, trivial⟩ ?_
   intro a7 w7 τ7 st7 f7
   obtain ⟨e1, e2, e6, e7, -⟩ := f7.ks [(1, _), (2, _), (6, _), (7, _)] ⟨e1, e2, e6, e7, trivial⟩
   have e31 : get a7 31 = t.kv.v := f7.v 1 rfl
   have e32 : get a7 32 = (.int .i64 ((t.kids.length : Int))) := f7.v 2 rfl
   have e33 : get a7 33 = (.int .i64 (0)) := f7.v 3 rfl
   clear f7
   show Code.wp _ _ _ a7 w7
   refine wp_block ?_
   refine wp_loop (fun a_ w_ => ∃ (k : Nat) (m : Int) (τ : Nat → Foot), (k ≤ t.kids.length) ∧
          (0 ≤ m ∧ m ≤ 1000) ∧
          (fitsL (t.kids.map fitsF) (n - 1) (depthF t d) = fitsL ((t.kids.drop k).map fitsF) m (depthF t d)) ∧
          St (Nw w) w 49 a_ w_ τ ∧
          get a_ 1 = (.int .i64 (m)) ∧
          get a_ 33 = (.int .i64 ((k : Int))) ∧
          get a_ 2 = (.int .i64 (depthF t d)) ∧
          get a_ 31 = t.kv.v ∧
          get a_ 32 = (.int .i64 ((t.kids.length : Int)))) (fun a_ _ => t.kids.length - (intOf (get a_ 33)).toNat) ?_ ?_
   · refine ⟨0, n - 1, τ7, ?_, ?_, ?_, st7, (e1.trans (int_eq (by omega))), (e33.trans (int_eq (by omega))), e2, e31, e32⟩
     · omega
     · omega
     · rfl
   intro a8 w8 hI
   obtain ⟨k, m, τ8, q0, q1, q2, st8, e1, e33, e2, e31, e32⟩ := hI
   have hpk0 := hpk k
   have m33 := e33
   refine wp_seq ?_
   refine region_St (bf := [0]) (sp := [det _ 34 _]) [] mixed st8 (by kernel_rfl) trivial
    ⟨Ob.d fun c => r_lss rfl (c.p e33) (c.p e32), trivial⟩ ?_
   intro a9 w9 τ9 st9 f9
   obtain ⟨e1, e2, e31, e32, e33, -⟩ := f9.ks [(1, _), (2, _), (31, _), (32, _), (33, _)] ⟨e1, e2, e31, e32, e33, trivial⟩
   have e34 : get a9 34 = (.bool (decide ((k : Int) < (t.kids.length : Int)))) := f9.v 0 rfl
   clear f9
   show Code.wp _ _ _ a9 w9
   refine wp_seq ?_
   refine wp_cond_split (t := decide ((k : Int) < (t.kids.length : Int))) e34 (fun hc3 => ?_) (fun hc3 => ?_)
   · try simp only [decide_eq_true_eq] at hc3
     refine wp_skip ?_
     show Code.wp _ _ _ a9 w9
     refine wp_seq ?_
     refine wp_block ?_
     refine wp_seq ?_
     refine region_St (bf := [0, 1, 0, 7]) (sp := [det _ 35 _, det _ 36 _, box _ _ 0 9 [(.int .i64 (0)), (.string ((⟨#[]⟩ : ByteArray))), (.bool (false)), (.slice none 0 0), (.int .i64 (0)), (.int .i64 (0)), (.bool (false)), (.slice none 0 0)], box _ _ 0 9 [(.int .i64 ((nth t.kids ((k : Int))).k)), (.string ((nth t.kids ((k : Int))).ch)), (.bool ((nth t.kids ((k : Int))).ng)), (nth t.kids ((k : Int))).rv.v, (.int .i64 ((nth t.kids ((k : Int))).mn)), (.int .i64 ((nth t.kids ((k : Int))).mx)), (.bool ((nth t.kids ((k : Int))).lz)), (nth t.kids ((k : Int))).kv.v]]) [] mixed st9 (by kernel_rfl) trivial
      ⟨Ob.d fun c => r_indexAddr rfl Try.underlying23 Try.sizeOf25 (c.p e31) (hT.at st9.ext).tl.sl.sl (c.p e33) (by omega) (by omega),
      Ob.d fun c => r_loadN (vs := [(.int .i64 ((nth t.kids ((k : Int))).k)), (.string ((nth t.kids ((k : Int))).ch)), (.bool ((nth t.kids ((k : Int))).ng)), (nth t.kids ((k : Int))).rv.v, (.int .i64 ((nth t.kids ((k : Int))).mn)), (.int .i64 ((nth t.kids ((k : Int))).mx)), (.bool ((nth t.kids ((k : Int))).lz)), (nth t.kids ((k : Int))).kv.v]) rfl Try.isAgg25 Try.sizeOf25 (c.n 0 rfl) rfl (fun _ _ hj => ((hT.at (st9.ext.trans c.J.ext)).tl.sl).elem (nth_some (i := (k : Int)) (by omega) (by omega)) hj),
      Ob.alloc rfl rfl rfl rfl Try.zeroValue25 rfl,
      Ob.storeBox (off := 0) (v := (.agg #[(.int .i64 ((nth t.kids ((k : Int))).k)), (.string ((nth t.kids ((k : Int))).ch)), (.bool ((nth t.kids ((k : Int))).ng)), (nth t.kids ((k : Int))).rv.v, (.int .i64 ((nth t.kids ((k : Int))).mn)), (.int .i64 ((nth t.kids ((k : Int))).mx)), (.bool ((nth t.kids ((k : Int))).lz)), (nth t.kids ((k : Int))).kv.v])) rfl rfl rfl rfl Try.sizeOf25 (Nat.le_of_ble_eq_true rfl) (by simp [Value.cells, Value.oneCell', Sv.v]) rfl (fun _ _ _ _ c => ⟨c.rb 2 rfl, (c.rb 2 rfl).ptr, (c.n 1 rfl)⟩), trivial⟩ ?_
     intro a10 w10 τ10 st10 f10
     obtain ⟨b10x9, e9⟩ : ∃ b, get a10 9 = b := ⟨_, rfl⟩
     obtain ⟨e1, e2, e31, e32, e33, e34, -⟩ := f10.ks [(1, _), (2, _), (31, _), (32, _), (33, _), (34, _)] ⟨e1, e2, e31, e32, e33, e34, trivial⟩
     have r0 : boxR 25 [(.int .i64 ((nth t.kids ((k : Int))).k)), (.string ((nth t.kids ((k : Int))).ch)), (.bool ((nth t.kids ((k : Int))).ng)), (nth t.kids ((k : Int))).rv.v, (.int .i64 ((nth t.kids ((k : Int))).mn)), (.int .i64 ((nth t.kids ((k : Int))).mx)), (.bool ((nth t.kids ((k : Int))).lz)), (nth t.kids ((k : Int))).kv.v] (τ10 0) b10x9 w10 := f10.rb 3 e9 rfl
     clear f10
     show Code.wp _ _ _ a10 w10
     refine wp_seq ?_
     refine region_St (bf := [0]) (sp := [det _ 10 _]) [ib r0] mixed st10 (by kernel_rfl) ⟨r0, trivial⟩
      ⟨Ob.d fun c => r_assign rfl rfl, trivial⟩ ?_
     intro a11 w11 τ11 st11 f11
     obtain ⟨e1, e2, e9, e31, e32, e33, e34, -⟩ := f11.ks [(1, _), (2, _), (9, _), (31, _), (32, _), (33, _), (34, _)] ⟨e1, e2, e9, e31, e32, e33, e34, trivial⟩
     have e10 : get a11 10 = (.bool (false)) := f11.v 0 rfl
     replace r0 := f11.ib 0 rfl
     clear f11
     show Code.wp _ _ _ a11 w11
     refine wp_seq ?_
     refine region_St (bf := [0, 0, 0, 7, 15, 31, 31, 63, 255]) (sp := [det _ 38 _, det _ 39 _, det _ 40 _, det _ 41 _, det _ 37 _, det _ 42 _, det _ 43 _, det _ 1 _, det _ 10 _]) [ib r0] mixed st11 (by kernel_rfl) ⟨r0, trivial⟩
      ⟨Ob.d fun c => r_loadN (vs := [(.int .i64 ((nth t.kids ((k : Int))).k)), (.string ((nth t.kids ((k : Int))).ch)), (.bool ((nth t.kids ((k : Int))).ng)), (nth t.kids ((k : Int))).rv.v, (.int .i64 ((nth t.kids ((k : Int))).mn)), (.int .i64 ((nth t.kids ((k : Int))).mx)), (.bool ((nth t.kids ((k : Int))).lz)), (nth t.kids ((k : Int))).kv.v]) rfl Try.isAgg25 Try.sizeOf25 ((c.p e9).trans r0.ptr) rfl (fun _ _ hj => (c.ib 0 rfl).cell hj),
      Ob.d fun c => r_move rfl (c.p e1),
      Ob.d fun c => r_move rfl (c.p e2),
      Ob.c fun c => ⟨_, _, (e_call3 rfl rfl Try.call34 (c.n 0 rfl) (c.n 1 rfl) (c.n 2 rfl)), ih _ (nth_memI (by omega) (by omega)) m (depthF t d) _ ((hT.at (st11.ext.trans c.J.ext)).tl.el (by omega) (by omega)) (by omega) (by omega) (by omega)⟩,
      Ob.d fun c => r_move rfl (c.n 3 rfl),
      Ob.d fun c => r_extract rfl (c.n 4 rfl) rfl,
      Ob.d fun c => r_extract rfl (c.n 4 rfl) rfl,
      Ob.d fun c => r_assign rfl (c.n 5 rfl),
      Ob.d fun c => r_assign rfl (c.n 6 rfl), trivial⟩ ?_
     intro a12 w12 τ12 st12 f12
     obtain ⟨e2, e9, e31, e32, e33, e34, -⟩ := f12.ks [(2, _), (9, _), (31, _), (32, _), (33, _), (34, _)] ⟨e2, e9, e31, e32, e33, e34, trivial⟩
     have e1 : get a12 1 = (.int .i64 ((fitsF (nth t.kids ((k : Int))) m (depthF t d)).1)) := f12.v 7 rfl
     have e10 : get a12 10 = (.bool ((fitsF (nth t.kids ((k : Int))) m (depthF t d)).2)) := f12.v 8 rfl
     replace r0 := f12.ib 0 rfl
     clear f12
     show Code.wp _ _ _ a12 w12
     refine wp_seq ?_
     refine region_St (bf := [0, 1]) (sp := [det _ 44 _, det _ 45 _]) [ib r0] mixed st12 (by kernel_rfl) ⟨r0, trivial⟩
      ⟨Ob.d fun c => r_move rfl (c.p e10),
      Ob.d fun c => r_not rfl (c.n 0 rfl), trivial⟩ ?_
     intro a13 w13 τ13 st13 f13
     obtain ⟨e1, e2, e9, e10, e31, e32, e33, e34, -⟩ := f13.ks [(1, _), (2, _), (9, _), (10, _), (31, _), (32, _), (33, _), (34, _)] ⟨e1, e2, e9, e10, e31, e32, e33, e34, trivial⟩
     have e45 : get a13 45 = (.bool (!((fitsF (nth t.kids ((k : Int))) m (depthF t d)).2))) := f13.v 1 rfl
     replace r0 := f13.ib 0 rfl
     clear f13
     show Code.wp _ _ _ a13 w13
     refine wp_cond_split (t := !((fitsF (nth t.kids ((k : Int))) m (depthF t d)).2)) e45 (fun hc4 => ?_) (fun hc4 => ?_)
     · have hd4 := hc4; try simp only [Bool.not_eq_true', Bool.not_eq_false'] at hd4
       refine wp_seq ?_
       have hbad : (fitsF (nth t.kids (k : Int)) m (depthF t d)).2 = false := by simpa using (by assumption : (!(fitsF (nth t.kids (k : Int)) m (depthF t d)).2) = true)
       refine region_St (bf := [0, 1, 3]) (sp := [det _ 46 _, det _ 6 _, det _ 7 _]) [ib r0] mixed st13 (by kernel_rfl) ⟨r0, trivial⟩
        ⟨Ob.d fun c => r_move rfl (c.p e1),
        Ob.d fun c => r_assign rfl (c.n 0 rfl),
        Ob.d fun c => r_assign rfl rfl, trivial⟩ ?_
       intro a14 w14 τ14 st14 f14
       obtain ⟨e1, e2, e9, e10, e31, e32, e33, e34, e45, -⟩ := f14.ks [(1, _), (2, _), (9, _), (10, _), (31, _), (32, _), (33, _), (34, _), (45, _)] ⟨e1, e2, e9, e10, e31, e32, e33, e34, e45, trivial⟩
       have e6 : get a14 6 = (.int .i64 ((fitsF (nth t.kids ((k : Int))) m (depthF t d)).1)) := f14.v 1 rfl
       have e7 : get a14 7 = (.bool (false)) := f14.v 2 rfl
       replace r0 := f14.ib 0 rfl
       clear f14
       show Code.wp _ _ _ a14 w14
       refine wp_ret ?_
       repeat (first | with_reducible refine then_ret ?_ | with_reducible refine block_ret ?_)
       refine ret2 (fn := Try.f34) rfl st14.defers e6 e7 ?_
       exact ⟨congrArg _ (show (Value.tuple #[(.int .i64 ((fitsF (nth t.kids ((k : Int))) m (depthF t d)).1)), (.bool (false))]) = (.tuple #[.int .i64 (fitsF t n d).1, .bool (fitsF t n d).2]) from by rw [fits_bad hcd q2 (by omega) hbad]), st14.ext0⟩
     have hd4 := hc4; try simp only [Bool.not_eq_true', Bool.not_eq_false'] at hd4
     refine wp_skip ?_
     show _
     show Code.wp _ _ _ a13 w13
     have hgood : (fitsF (nth t.kids (k : Int)) m (depthF t d)).2 = true := by simpa using (by assumption : (!(fitsF (nth t.kids (k : Int)) m (depthF t d)).2) = false)
     have hrg := fitsF_range (nth t.kids (k : Int)) (n := m) (d := depthF t d) (by omega)
     refine region_St (bf := [0, 1]) (sp := [det _ 47 _, det _ 33 _]) [ib r0] mixed st13 (by kernel_rfl) ⟨r0, trivial⟩
      ⟨Ob.d fun c => r_add rfl (c.p e33) rfl (by omega),
      Ob.d fun c => r_move rfl (c.n 0 rfl), trivial⟩ ?_
     intro a15 w15 τ15 st15 f15
     obtain ⟨e1, e2, e9, e10, e31, e32, e34, e45, -⟩ := f15.ks [(1, _), (2, _), (9, _), (10, _), (31, _), (32, _), (34, _), (45, _)] ⟨e1, e2, e9, e10, e31, e32, e34, e45, trivial⟩
     have e33 : get a15 33 = (.int .i64 ((k : Int) + 1)) := f15.v 1 rfl
     replace r0 := f15.ib 0 rfl
     clear f15
     refine ⟨⟨k + 1, (fitsF (nth t.kids (k : Int)) m (depthF t d)).1, τ15, ?_, ?_, ?_, st15, (e1.trans (int_eq (by omega))), (e33.trans (int_eq (by omega))), e2, e31, e32⟩, ?_⟩
     · omega
     · omega
     · exact fits_next q2 (by omega) hgood
     · simp only [m33, e33, intOf]; omega
   try simp only [decide_eq_false_iff_not, Int.not_lt] at hc3
   refine wp_exit ?_
   repeat (with_reducible refine then_exit ?_)
   refine exit_here ?_
   show Code.wp _ _ _ a9 w9
   refine wp_seq ?_
   refine region_St (bf := [0, 1, 3]) (sp := [det _ 48 _, det _ 6 _, det _ 7 _]) [] mixed st9 (by kernel_rfl) trivial
    ⟨Ob.d fun c => r_move rfl (c.p e1),
    Ob.d fun c => r_assign rfl (c.n 0 rfl),
    Ob.d fun c => r_assign rfl rfl, trivial⟩ ?_
   intro a16 w16 τ16 st16 f16
   have e6 : get a16 6 = (.int .i64 (m)) := f16.v 1 rfl
   have e7 : get a16 7 = (.bool (true)) := f16.v 2 rfl
   clear f16
   show Code.wp _ _ _ a16 w16
   refine wp_ret ?_
   repeat (first | with_reducible refine then_ret ?_ | with_reducible refine block_ret ?_)
   refine ret2 (fn := Try.f34) rfl st16.defers e6 e7 ?_
   exact ⟨congrArg _ (show (Value.tuple #[(.int .i64 (m)), (.bool (true))]) = (.tuple #[.int .i64 (fitsF t n d).1, .bool (fitsF t n d).2]) from by rw [fits_end hcd q2 (by omega)]), st16.ext0⟩
 have hd4 := hc1; try simp only [Bool.or_eq_false_iff, decide_eq_false_iff_not] at hd4
 refine wp_skip ?_
 show Code.wp _ _ _ a2 w2
 refine wp_seq ?_
 refine wp_seq ?_
 have hdp : d = depthF t d := by unfold depthF grpB; first | (rw [if_pos (by simpa using (by assumption))]) | (rw [if_neg (by simpa using (by assumption))])
 replace e2 : get a2 2 = .int .i64 (depthF t d) := e2.trans (int_eq hdp)
 have hdr : depthF t d ≤ 1000 ∧ -1 ≤ depthF t d := by unfold depthF; split <;> omega
 refine region_St (bf := [0, 1, 3, 7, 15, 31, 63, 127, 255, 511, 1023]) (sp := [det _ 16 _, det _ 17 _, det _ 18 _, gdet _ 19 _ _, gdet _ 20 _ _, det _ 21 _, det _ 22 _, gdet _ 23 _ _, gdet _ 24 _ _, gdet _ 25 _ _, det _ 26 _]) [ib r0] mixed st2 (by kernel_rfl) ⟨r0, trivial⟩
  ⟨Ob.d fun c => r_move rfl (c.p e1),
  Ob.d fun c => r_lss rfl (c.n 0 rfl) rfl,
  Ob.d fun c => r_move rfl (c.n 1 rfl),
  Ob.g 2 false rfl fun c hpc => r_move rfl (c.p e2),
  Ob.g 2 false rfl fun c hpc => r_lss rfl (c.m 3 rfl hpc) rfl,
  Ob.d fun c => r_or rfl (c.n 2 rfl) (fun h => c.m 4 rfl h),
  Ob.d fun c => r_move rfl (c.n 5 rfl),
  Ob.g 6 false rfl fun c hpc => r_loadN (vs := [(.int .i64 (t.k)), (.string (t.ch)), (.bool (t.ng)), t.rv.v, (.int .i64 (t.mn)), (.int .i64 (t.mx)), (.bool (t.lz)), t.kv.v]) rfl Try.isAgg25 Try.sizeOf25 ((c.p e3).trans r0.ptr) rfl (fun _ _ hj => (c.ib 0 rfl).cell hj),
  Ob.gc 6 false rfl fun c hpc => ⟨_, _, (e_call1 rfl rfl Try.call40 (c.m 7 rfl hpc)), fields_c t _ (hT.at (st2.ext.trans c.J.ext)) (by have hq0 := hpc; (try simp only [Bool.or_eq_false_iff, decide_eq_false_iff_not, Int.not_lt] at hq0); omega)⟩,
  Ob.g 6 false rfl fun c hpc => r_not rfl (c.m 8 rfl hpc),
  Ob.d fun c => r_or rfl (c.n 6 rfl) (fun h => c.m 9 rfl h), trivial⟩ ?_
 intro a17 w17 τ17 st17 f17
 obtain ⟨e1, e2, e3, e6, e7, -⟩ := f17.ks [(1, _), (2, _), (3, _), (6, _), (7, _)] ⟨e1, e2, e3, e6, e7, trivial⟩
 have e26 : get a17 26 = (.bool (((decide (n < 1)) || (decide (depthF t d < 0))) || (!(fieldsF t)))) := f17.v 10 rfl
 replace r0 := f17.ib 0 rfl
 clear f17
 show Code.wp _ _ _ a17 w17
 refine wp_cond_split (t := ((decide (n < 1)) || (decide (depthF t d < 0))) || (!(fieldsF t))) e26 (fun hc5 => ?_) (fun hc5 => ?_)
 · have hd5 := hc5; try simp only [Bool.or_eq_true, Bool.or_eq_false_iff, Bool.not_eq_true', Bool.not_eq_false', decide_eq_true_eq, decide_eq_false_iff_not, Int.not_lt] at hd5
   refine wp_seq ?_
   have hcd := hc5
   refine region_St (bf := [0, 1, 3]) (sp := [det _ 27 _, det _ 6 _, det _ 7 _]) [ib r0] mixed st17 (by kernel_rfl) ⟨r0, trivial⟩
    ⟨Ob.d fun c => r_move rfl (c.p e1),
    Ob.d fun c => r_assign rfl (c.n 0 rfl),
    Ob.d fun c => r_assign rfl rfl, trivial⟩ ?_
   intro a18 w18 τ18 st18 f18
   obtain ⟨e1, e2, e3, -⟩ := f18.ks [(1, _), (2, _), (3, _)] ⟨e1, e2, e3, trivial⟩
   have e6 : get a18 6 = (.int .i64 (n)) := f18.v 1 rfl
   have e7 : get a18 7 = (.bool (false)) := f18.v 2 rfl
   replace r0 := f18.ib 0 rfl
   clear f18
   show Code.wp _ _ _ a18 w18
   refine wp_ret ?_
   repeat (first | with_reducible refine then_ret ?_ | with_reducible refine block_ret ?_)
   refine ret2 (fn := Try.f34) rfl st18.defers e6 e7 ?_
   exact ⟨congrArg _ (show (Value.tuple #[(.int .i64 (n)), (.bool (false))]) = (.tuple #[.int .i64 (fitsF t n d).1, .bool (fitsF t n d).2]) from by rw [fits_no hcd]), st18.ext0⟩
 have hd5 := hc5; try simp only [Bool.or_eq_true, Bool.or_eq_false_iff, Bool.not_eq_true', Bool.not_eq_false', decide_eq_true_eq, decide_eq_false_iff_not, Int.not_lt] at hd5
 refine wp_skip ?_
 show Code.wp _ _ _ a17 w17
 refine wp_seq ?_
 have hcd : ((decide (n < 1) || decide (depthF t d < 0)) || !fieldsF t) = false := by assumption
 have hce := hcd
 simp only [Bool.or_eq_false_iff, decide_eq_false_iff_not, Int.not_lt] at hce
 refine region_St (bf := [0, 1, 3]) (sp := [det _ 28 _, det _ 29 _, det _ 1 _]) [ib r0] mixed st17 (by kernel_rfl) ⟨r0, trivial⟩
  ⟨Ob.d fun c => r_move rfl (c.p e1),
  Ob.d fun c => r_sub rfl (c.n 0 rfl) rfl (by omega),
  Ob.d fun c => r_assign rfl (c.n 1 rfl), trivial⟩ ?_
 intro a19 w19 τ19 st19 f19
 obtain ⟨e2, e3, e6, e7, -⟩ := f19.ks [(2, _), (3, _), (6, _), (7, _)] ⟨e2, e3, e6, e7, trivial⟩
 have e1 : get a19 1 = (.int .i64 (n - 1)) := f19.v 2 rfl
 replace r0 := f19.ib 0 rfl
 clear f19
 show Code.wp _ _ _ a19 w19
 refine wp_seq ?_
 refine wp_seq ?_
 refine region_St (bf := [0, 1, 3, 0]) (sp := [det _ 30 _, det _ 31 _, det _ 32 _, det _ 33 _]) [ib r0] mixed st19 (by kernel_rfl) ⟨r0, trivial⟩
  ⟨Ob.d fun c => r_fieldAddr rfl Try.underlying25 rfl rfl Try.sizeOf23 ((c.p e3).trans r0.ptr),
  Ob.d fun c => r_load1 rfl Try.isAgg23 (c.n 0 rfl) ((c.ib 0 rfl).cell (j := 7) rfl),
  Ob.d fun c => r_len rfl Try.underlying23 (c.n 1 rfl) (hT.at st19.ext).tl.sl.sl,
  Ob.d fun c => r_move rfl rfl, trivial⟩ ?_
 intro a20 w20 τ20 st20 f20
 obtain ⟨e1, e2, e6, e7, -⟩ := f20.ks [(1, _), (2, _), (6, _), (7, _)] ⟨e1, e2, e6, e7, trivial⟩
 have e31 : get a20 31 = t.kv.v := f20.v 1 rfl
 have e32 : get a20 32 = (.int .i64 ((t.kids.length : Int))) := f20.v 2 rfl
 have e33 : get a20 33 = (.int .i64 (0)) := f20.v 3 rfl
 clear f20
 show Code.wp _ _ _ a20 w20
 refine wp_block ?_
 refine wp_loop (fun a_ w_ => ∃ (k : Nat) (m : Int) (τ : Nat → Foot), (k ≤ t.kids.length) ∧
      (0 ≤ m ∧ m ≤ 1000) ∧
      (fitsL (t.kids.map fitsF) (n - 1) (depthF t d) = fitsL ((t.kids.drop k).map fitsF) m (depthF t d)) ∧
      St (Nw w) w 49 a_ w_ τ ∧
      get a_ 1 = (.int .i64 (m)) ∧
      get a_ 33 = (.int .i64 ((k : Int))) ∧
      get a_ 2 = (.int .i64 (depthF t d)) ∧
      get a_ 31 = t.kv.v ∧
      get a_ 32 = (.int .i64 ((t.kids.length : Int)))) (fun a_ _ => t.kids.length - (intOf (get a_ 33)).toNat) ?_ ?_
 · refine ⟨0, n - 1, τ20, ?_, ?_, ?_, st20, (e1.trans (int_eq (by omega))), (e33.trans (int_eq (by omega))), e2, e31, e32⟩
   · omega
   · omega
   · rfl
 intro a21 w21 hI
 obtain ⟨k, m, τ21, q0, q1, q2, st21, e1, e33, e2, e31, e32⟩ := hI
 have hpk0 := hpk k
 have m33 := e33
 refine wp_seq ?_
 refine region_St (bf := [0]) (sp := [det _ 34 _]) [] mixed st21 (by kernel_rfl) trivial
  ⟨Ob.d fun c => r_lss rfl (c.p e33) (c.p e32), trivial⟩ ?_
 intro a22 w22 τ22 st22 f22
 obtain ⟨e1, e2, e31, e32, e33, -⟩ := f22.ks [(1, _), (2, _), (31, _), (32, _), (33, _)] ⟨e1, e2, e31, e32, e33, trivial⟩
 have e34 : get a22 34 = (.bool (decide ((k : Int) < (t.kids.length : Int)))) := f22.v 0 rfl
 clear f22
 show Code.wp _ _ _ a22 w22
 refine wp_seq ?_
 refine wp_cond_split (t := decide ((k : Int) < (t.kids.length : Int))) e34 (fun hc6 => ?_) (fun hc6 => ?_)
 · try simp only [decide_eq_true_eq] at hc6
   refine wp_skip ?_
   show Code.wp _ _ _ a22 w22
   refine wp_seq ?_
   refine wp_block ?_
   refine wp_seq ?_
   refine region_St (bf := [0, 1, 0, 7]) (sp := [det _ 35 _, det _ 36 _, box _ _ 0 9 [(.int .i64 (0)), (.string ((⟨#[]⟩ : ByteArray))), (.bool (false)), (.slice none 0 0), (.int .i64 (0)), (.int .i64 (0)), (.bool (false)), (.slice none 0 0)], box _ _ 0 9 [(.int .i64 ((nth t.kids ((k : Int))).k)), (.string ((nth t.kids ((k : Int))).ch)), (.bool ((nth t.kids ((k : Int))).ng)), (nth t.kids ((k : Int))).rv.v, (.int .i64 ((nth t.kids ((k : Int))).mn)), (.int .i64 ((nth t.kids ((k : Int))).mx)), (.bool ((nth t.kids ((k : Int))).lz)), (nth t.kids ((k : Int))).kv.v]]) [] mixed st22 (by kernel_rfl) trivial
    ⟨Ob.d fun c => r_indexAddr rfl Try.underlying23 Try.sizeOf25 (c.p e31) (hT.at st22.ext).tl.sl.sl (c.p e33) (by omega) (by omega),
    Ob.d fun c => r_loadN (vs := [(.int .i64 ((nth t.kids ((k : Int))).k)), (.string ((nth t.kids ((k : Int))).ch)), (.bool ((nth t.kids ((k : Int))).ng)), (nth t.kids ((k : Int))).rv.v, (.int .i64 ((nth t.kids ((k : Int))).mn)), (.int .i64 ((nth t.kids ((k : Int))).mx)), (.bool ((nth t.kids ((k : Int))).lz)), (nth t.kids ((k : Int))).kv.v]) rfl Try.isAgg25 Try.sizeOf25 (c.n 0 rfl) rfl (fun _ _ hj => ((hT.at (st22.ext.trans c.J.ext)).tl.sl).elem (nth_some (i := (k : Int)) (by omega) (by omega)) hj),
    Ob.alloc rfl rfl rfl rfl Try.zeroValue25 rfl,
    Ob.storeBox (off := 0) (v := (.agg #[(.int .i64 ((nth t.kids ((k : Int))).k)), (.string ((nth t.kids ((k : Int))).ch)), (.bool ((nth t.kids ((k : Int))).ng)), (nth t.kids ((k : Int))).rv.v, (.int .i64 ((nth t.kids ((k : Int))).mn)), (.int .i64 ((nth t.kids ((k : Int))).mx)), (.bool ((nth t.kids ((k : Int))).lz)), (nth t.kids ((k : Int))).kv.v])) rfl rfl rfl rfl Try.sizeOf25 (Nat.le_of_ble_eq_true rfl) (by simp [Value.cells, Value.oneCell', Sv.v]) rfl (fun _ _ _ _ c => ⟨c.rb 2 rfl, (c.rb 2 rfl).ptr, (c.n 1 rfl)⟩), trivial⟩ ?_
   intro a23 w23 τ23 st23 f23
   obtain ⟨b23x9, e9⟩ : ∃ b, get a23 9 = b := ⟨_, rfl⟩
   obtain ⟨e1, e2, e31, e32, e33, e34, -⟩ := f23.ks [(1, _), (2, _), (31, _), (32, _), (33, _), (34, _)] ⟨e1, e2, e31, e32, e33, e34, trivial⟩
   have r0 : boxR 25 [(.int .i64 ((nth t.kids ((k : Int))).k)), (.string ((nth t.kids ((k : Int))).ch)), (.bool ((nth t.kids ((k : Int))).ng)), (nth t.kids ((k : Int))).rv.v, (.int .i64 ((nth t.kids ((k : Int))).mn)), (.int .i64 ((nth t.kids ((k : Int))).mx)), (.bool ((nth t.kids ((k : Int))).lz)), (nth t.kids ((k : Int))).kv.v] (τ23 0) b23x9 w23 := f23.rb 3 e9 rfl
   clear f23
   show Code.wp _ _ _ a23 w23
   refine wp_seq ?_
   refine region_St (bf := [0]) (sp := [det _ 10 _]) [ib r0] mixed st23 (by kernel_rfl) ⟨r0, trivial⟩
    ⟨Ob.d fun c => r_assign rfl rfl, trivial⟩ ?_
   intro a24 w24 τ24 st24 f24
   obtain ⟨e1, e2, e9, e31, e32, e33, e34, -⟩ := f24.ks [(1, _), (2, _), (9, _), (31, _), (32, _), (33, _), (34, _)] ⟨e1, e2, e9, e31, e32, e33, e34, trivial⟩
   have e10 : get a24 10 = (.bool (false)) := f24.v 0 rfl
   replace r0 := f24.ib 0 rfl
   clear f24
   show Code.wp _ _ _ a24 w24
   refine wp_seq ?_
   refine region_St (bf := [0, 0, 0, 7, 15, 31, 31, 63, 255]) (sp := [det _ 38 _, det _ 39 _, det _ 40 _, det _ 41 _, det _ 37 _, det _ 42 _, det _ 43 _, det _ 1 _, det _ 10 _]) [ib r0] mixed st24 (by kernel_rfl) ⟨r0, trivial⟩
    ⟨Ob.d fun c => r_loadN (vs := [(.int .i64 ((nth t.kids ((k : Int))).k)), (.string ((nth t.kids ((k : Int))).ch)), (.bool ((nth t.kids ((k : Int))).ng)), (nth t.kids ((k : Int))).rv.v, (.int .i64 ((nth t.kids ((k : Int))).mn)), (.int .i64 ((nth t.kids ((k : Int))).mx)), (.bool ((nth t.kids ((k : Int))).lz)), (nth t.kids ((k : Int))).kv.v]) rfl Try.isAgg25 Try.sizeOf25 ((c.p e9).trans r0.ptr) rfl (fun _ _ hj => (c.ib 0 rfl).cell hj),
    Ob.d fun c => r_move rfl (c.p e1),
    Ob.d fun c => r_move rfl (c.p e2),
    Ob.c fun c => ⟨_, _, (e_call3 rfl rfl Try.call34 (c.n 0 rfl) (c.n 1 rfl) (c.n 2 rfl)), ih _ (nth_memI (by omega) (by omega)) m (depthF t d) _ ((hT.at (st24.ext.trans c.J.ext)).tl.el (by omega) (by omega)) (by omega) (by omega) (by omega)⟩,
    Ob.d fun c => r_move rfl (c.n 3 rfl),
    Ob.d fun c => r_extract rfl (c.n 4 rfl) rfl,
    Ob.d fun c => r_extract rfl (c.n 4 rfl) rfl,
    Ob.d fun c => r_assign rfl (c.n 5 rfl),
    Ob.d fun c => r_assign rfl (c.n 6 rfl), trivial⟩ ?_
   intro a25 w25 τ25 st25 f25
   obtain ⟨e2, e9, e31, e32, e33, e34, -⟩ := f25.ks [(2, _), (9, _), (31, _), (32, _), (33, _), (34, _)] ⟨e2, e9, e31, e32, e33, e34, trivial⟩
   have e1 : get a25 1 = (.int .i64 ((fitsF (nth t.kids ((k : Int))) m (depthF t d)).1)) := f25.v 7 rfl
   have e10 : get a25 10 = (.bool ((fitsF (nth t.kids ((k : Int))) m (depthF t d)).2)) := f25.v 8 rfl
   replace r0 := f25.ib 0 rfl
   clear f25
   show Code.wp _ _ _ a25 w25
   refine wp_seq ?_
   refine region_St (bf := [0, 1]) (sp := [det _ 44 _, det _ 45 _]) [ib r0] mixed st25 (by kernel_rfl) ⟨r0, trivial⟩
    ⟨Ob.d fun c => r_move rfl (c.p e10),
    Ob.d fun c => r_not rfl (c.n 0 rfl), trivial⟩ ?_
   intro a26 w26 τ26 st26 f26
   obtain ⟨e1, e2, e9, e10, e31, e32, e33, e34, -⟩ := f26.ks [(1, _), (2, _), (9, _), (10, _), (31, _), (32, _), (33, _), (34, _)] ⟨e1, e2, e9, e10, e31, e32, e33, e34, trivial⟩
   have e45 : get a26 45 = (.bool (!((fitsF (nth t.kids ((k : Int))) m (depthF t d)).2))) := f26.v 1 rfl
   replace r0 := f26.ib 0 rfl
   clear f26
   show Code.wp _ _ _ a26 w26
   refine wp_cond_split (t := !((fitsF (nth t.kids ((k : Int))) m (depthF t d)).2)) e45 (fun hc7 => ?_) (fun hc7 => ?_)
   · have hd7 := hc7; try simp only [Bool.not_eq_true', Bool.not_eq_false'] at hd7
     refine wp_seq ?_
     have hbad : (fitsF (nth t.kids (k : Int)) m (depthF t d)).2 = false := by simpa using (by assumption : (!(fitsF (nth t.kids (k : Int)) m (depthF t d)).2) = true)
     refine region_St (bf := [0, 1, 3]) (sp := [det _ 46 _, det _ 6 _, det _ 7 _]) [ib r0] mixed st26 (by kernel_rfl) ⟨r0, trivial⟩
      ⟨Ob.d fun c => r_move rfl (c.p e1),
      Ob.d fun c => r_assign rfl (c.n 0 rfl),
      Ob.d fun c => r_assign rfl rfl, trivial⟩ ?_
     intro a27 w27 τ27 st27 f27
     obtain ⟨e1, e2, e9, e10, e31, e32, e33, e34, e45, -⟩ := f27.ks [(1, _), (2, _), (9, _), (10, _), (31, _), (32, _), (33, _), (34, _), (45, _)] ⟨e1, e2, e9, e10, e31, e32, e33, e34, e45, trivial⟩
     have e6 : get a27 6 = (.int .i64 ((fitsF (nth t.kids ((k : Int))) m (depthF t d)).1)) := f27.v 1 rfl
     have e7 : get a27 7 = (.bool (false)) := f27.v 2 rfl
     replace r0 := f27.ib 0 rfl
     clear f27
     show Code.wp _ _ _ a27 w27
     refine wp_ret ?_
     repeat (first | with_reducible refine then_ret ?_ | with_reducible refine block_ret ?_)
     refine ret2 (fn := Try.f34) rfl st27.defers e6 e7 ?_
     exact ⟨congrArg _ (show (Value.tuple #[(.int .i64 ((fitsF (nth t.kids ((k : Int))) m (depthF t d)).1)), (.bool (false))]) = (.tuple #[.int .i64 (fitsF t n d).1, .bool (fitsF t n d).2]) from by rw [fits_bad hcd q2 (by omega) hbad]), st27.ext0⟩
   have hd7 := hc7; try simp only [Bool.not_eq_true', Bool.not_eq_false'] at hd7
   refine wp_skip ?_
   show _
   show Code.wp _ _ _ a26 w26
   have hgood : (fitsF (nth t.kids (k : Int)) m (depthF t d)).2 = true := by simpa using (by assumption : (!(fitsF (nth t.kids (k : Int)) m (depthF t d)).2) = false)
   have hrg := fitsF_range (nth t.kids (k : Int)) (n := m) (d := depthF t d) (by omega)
   refine region_St (bf := [0, 1]) (sp := [det _ 47 _, det _ 33 _]) [ib r0] mixed st26 (by kernel_rfl) ⟨r0, trivial⟩
    ⟨Ob.d fun c => r_add rfl (c.p e33) rfl (by omega),
    Ob.d fun c => r_move rfl (c.n 0 rfl), trivial⟩ ?_
   intro a28 w28 τ28 st28 f28
   obtain ⟨e1, e2, e9, e10, e31, e32, e34, e45, -⟩ := f28.ks [(1, _), (2, _), (9, _), (10, _), (31, _), (32, _), (34, _), (45, _)] ⟨e1, e2, e9, e10, e31, e32, e34, e45, trivial⟩
   have e33 : get a28 33 = (.int .i64 ((k : Int) + 1)) := f28.v 1 rfl
   replace r0 := f28.ib 0 rfl
   clear f28
   refine ⟨⟨k + 1, (fitsF (nth t.kids (k : Int)) m (depthF t d)).1, τ28, ?_, ?_, ?_, st28, (e1.trans (int_eq (by omega))), (e33.trans (int_eq (by omega))), e2, e31, e32⟩, ?_⟩
   · omega
   · omega
   · exact fits_next q2 (by omega) hgood
   · simp only [m33, e33, intOf]; omega
 try simp only [decide_eq_false_iff_not, Int.not_lt] at hc6
 refine wp_exit ?_
 repeat (with_reducible refine then_exit ?_)
 refine exit_here ?_
 show Code.wp _ _ _ a22 w22
 refine wp_seq ?_
 refine region_St (bf := [0, 1, 3]) (sp := [det _ 48 _, det _ 6 _, det _ 7 _]) [] mixed st22 (by kernel_rfl) trivial
  ⟨Ob.d fun c => r_move rfl (c.p e1),
  Ob.d fun c => r_assign rfl (c.n 0 rfl),
  Ob.d fun c => r_assign rfl rfl, trivial⟩ ?_
 intro a29 w29 τ29 st29 f29
 have e6 : get a29 6 = (.int .i64 (m)) := f29.v 1 rfl
 have e7 : get a29 7 = (.bool (true)) := f29.v 2 rfl
 clear f29
 show Code.wp _ _ _ a29 w29
 refine wp_ret ?_
 repeat (first | with_reducible refine then_ret ?_ | with_reducible refine block_ret ?_)
 refine ret2 (fn := Try.f34) rfl st29.defers e6 e7 ?_
 exact ⟨congrArg _ (show (Value.tuple #[(.int .i64 (m)), (.bool (true))]) = (.tuple #[.int .i64 (fitsF t n d).1, .bool (fitsF t n d).2]) from by rw [fits_end hcd q2 (by omega)]), st29.ext0⟩
theorem fits_c (t : Tr) : ∀ (n d : Int) (w : World), TrS w t → wtF t ≤ 1000000 → 0 ≤ n ∧ n ≤ 1000 → 0 ≤ d ∧ d ≤ 1000 → Calls Try.prog 34 #[t.v, .int .i64 n, .int .i64 d] w (fun e w' => e = .returned (.tuple #[.int .i64 (fitsF t n d).1, .bool (fitsF t n d).2]) ∧ Ext none' w w') := Tr.ind (P := fun t => ∀ (n d : Int) (w : World), TrS w t → wtF t ≤ 1000000 → 0 ≤ n ∧ n ≤ 1000 → 0 ≤ d ∧ d ≤ 1000 → Calls Try.prog 34 #[t.v, .int .i64 n, .int .i64 d] w (fun e w' => e = .returned (.tuple #[.int .i64 (fitsF t n d).1, .bool (fitsF t n d).2]) ∧ Ext none' w w')) fits_step t
set_option maxRecDepth 100000 in
theorem may_c (t : Tr) (w : World) (hT : TrS w t) (hP : wtF t ≤ 1000000) : Calls Try.prog 20 #[(.agg #[(.int .i64 (t.k)), (.string (t.ch)), (.bool (t.ng)), t.rv.v, (.int .i64 (t.mn)), (.int .i64 (t.mx)), (.bool (t.lz)), t.kv.v])] w (fun e w' => e = .returned (.bool ((fitsF t 512 16).2)) ∧ Ext none' w w') := by
 refine enter (n := 11) Try.func20 rfl rfl (Nat.le_of_ble_eq_true rfl) ?_
 intro a0 τ0 ha st0
 have e0 : get a0 0 = (.agg #[(.int .i64 (t.k)), (.string (t.ch)), (.bool (t.ng)), t.rv.v, (.int .i64 (t.mn)), (.int .i64 (t.mx)), (.bool (t.lz)), t.kv.v]) := ha 0 _ rfl
 clear ha
 refine wp_seq ?_
 refine region_St (bf := [0, 0]) (sp := [box _ _ 0 1 [(.int .i64 (t.k)), (.string (t.ch)), (.bool (t.ng)), t.rv.v, (.int .i64 (t.mn)), (.int .i64 (t.mx)), (.bool (t.lz)), t.kv.v], det _ 2 _]) [] mixed st0 (by kernel_rfl) trivial
  ⟨Ob.box (v := (.agg #[(.int .i64 (t.k)), (.string (t.ch)), (.bool (t.ng)), t.rv.v, (.int .i64 (t.mn)), (.int .i64 (t.mx)), (.bool (t.lz)), t.kv.v])) rfl rfl rfl rfl rfl (fun _ _ _ _ c => (c.p e0)),
  Ob.d fun c => r_assign rfl rfl, trivial⟩ ?_
 intro a1 w1 τ1 st1 f1
 obtain ⟨b1x1, e1⟩ : ∃ b, get a1 1 = b := ⟨_, rfl⟩
 have e2 : get a1 2 = (.bool (false)) := f1.v 1 rfl
 have r0 : boxR 25 [(.int .i64 (t.k)), (.string (t.ch)), (.bool (t.ng)), t.rv.v, (.int .i64 (t.mn)), (.int .i64 (t.mx)), (.bool (t.lz)), t.kv.v] (τ1 0) b1x1 w1 := f1.rb 0 e1 rfl
 clear f1
 show Code.wp _ _ _ a1 w1
 refine wp_seq ?_
 refine region_St (bf := [0, 1, 3, 7, 7, 15, 63]) (sp := [det _ 6 _, det _ 7 _, det _ 5 _, det _ 8 _, det _ 9 _, det _ 3 _, det _ 4 _]) [ib r0] mixed st1 (by kernel_rfl) ⟨r0, trivial⟩
  ⟨Ob.d fun c => r_loadN (vs := [(.int .i64 (t.k)), (.string (t.ch)), (.bool (t.ng)), t.rv.v, (.int .i64 (t.mn)), (.int .i64 (t.mx)), (.bool (t.lz)), t.kv.v]) rfl Try.isAgg25 Try.sizeOf25 ((c.p e1).trans r0.ptr) rfl (fun _ _ hj => (c.ib 0 rfl).cell hj),
  Ob.c fun c => ⟨_, _, (e_call3 rfl rfl Try.call34 (c.n 0 rfl) rfl rfl), fits_c t 512 16 _ (hT.at (st1.ext.trans c.J.ext)) (by omega) (by omega) (by omega)⟩,
  Ob.d fun c => r_move rfl (c.n 1 rfl),
  Ob.d fun c => r_extract rfl (c.n 2 rfl) rfl,
  Ob.d fun c => r_extract rfl (c.n 2 rfl) rfl,
  Ob.d fun c => r_assign rfl (c.n 3 rfl),
  Ob.d fun c => r_assign rfl (c.n 4 rfl), trivial⟩ ?_
 intro a2 w2 τ2 st2 f2
 obtain ⟨e2, -⟩ := f2.ks [(2, _)] ⟨e2, trivial⟩
 have e4 : get a2 4 = (.bool ((fitsF t 512 16).2)) := f2.v 6 rfl
 clear f2
 show Code.wp _ _ _ a2 w2
 refine wp_seq ?_
 refine region_St (bf := [0, 1]) (sp := [det _ 10 _, det _ 2 _]) [] mixed st2 (by kernel_rfl) trivial
  ⟨Ob.d fun c => r_move rfl (c.p e4),
  Ob.d fun c => r_assign rfl (c.n 0 rfl), trivial⟩ ?_
 intro a3 w3 τ3 st3 f3
 have e2 : get a3 2 = (.bool ((fitsF t 512 16).2)) := f3.v 1 rfl
 clear f3
 show Code.wp _ _ _ a3 w3
 refine wp_ret ?_
 repeat (first | with_reducible refine then_ret ?_ | with_reducible refine block_ret ?_)
 refine ret1 (fn := Try.f20) rfl st3.defers e2 ?_
 exact ⟨rfl, st3.ext0⟩
end B
end Go.Proofs.Ytocmchlhbniloaa
namespace Go.Proofs.Ytocmchlhbniloaa
namespace B
open Go.RowKit
open Srt
def allF : Tr → Bool := foldF fun t l => l.all (fun b => b) && fieldsF t
theorem allF_eq (t : Tr) : allF t = (t.kids.all allF && fieldsF t) := by
  have h := foldF_eq (fun t l => l.all (fun b => b) && fieldsF t) t
  rw [List.all_map] at h
  exact h
theorem someK_two (t : Tr) : someK t [0, 1] = t.kids.any fun y => decide (y.k = 0) || decide (y.k = 1) := by
  unfold someK; congr 1; funext y; simp
theorem someK_one (t : Tr) : someK t [1] = t.kids.any fun y => decide (y.k = 1) := by
  unfold someK; congr 1; funext y; simp
end B
end Go.Proofs.Ytocmchlhbniloaa
namespace Go.Proofs.Ytocmchlhbniloaa
namespace B
open Srt
theorem sameF_er2 (a b : Tr) : sameF (er a) (er b) = sameF a b := by
  rw [Bool.eq_iff_iff, sameF_iff, sameF_iff, er_er, er_er]
theorem fieldsF_er (t : Tr) : fieldsF (er t) = fieldsF t := by
  have h1 : ∀ f : Int → Bool, (er t).kids.any (fun x => f x.k) = t.kids.any (fun x => f x.k) := fun f => by
    rw [er_kids, List.any_map]; congr 1; funext x; simp [er_k]
  have h2 : (nth (er t).kids 0).k = (nth t.kids 0).k := by
    rw [er_kids]
    cases hk : t.kids with
    | nil => rfl
    | cons x l =>
      show (nth (List.map er (x :: l)) 0).k = x.k
      rw [← er_k x]; rfl
  have h3 : (er t).kids.length = t.kids.length := by rw [er_kids]; simp
  have h4 : ∀ ks, someK (er t) ks = someK t ks := fun ks => h1 fun k => ks.any fun y => decide (k = y)
  have h5 : bareT (er t) = bareT t := by unfold bareT; rw [er_eq]
  unfold fieldsF
  rw [h2, h3, h4, h4, h5]
  rw [er_eq]
theorem fitsF_er (t : Tr) : fitsF (er t) = fitsF t := foldF_er (fun t l => by funext n d; rw [fieldsF_er]; unfold depthF grpB; rw [er_k]) t
theorem er_fold {t u : Tr} (h : er t = u) : t.k = u.k ∧ t.kids.length = u.kids.length ∧ fitsF t = fitsF u ∧ partsF t = partsF u ∧ wtF t = wtF u := by
  subst h
  have hf : ∀ x : Tr, fitsF (er x) = fitsF x := fun x => foldF_er (fun t l => by funext n d; rw [fieldsF_er]; unfold depthF grpB; rw [er_k]) x
  exact ⟨(er_k t).symm, by rw [er_kids]; simp, (hf t).symm, (partsF_er t).symm, (wtF_er t).symm⟩
end B
end Go.Proofs.Ytocmchlhbniloaa
namespace Go.Proofs.Ytocmchlhbniloaa
namespace B
open Go.RowKit
open Srt
set_option maxRecDepth 100000 in
theorem char_c (s : ByteArray) (w : World) : Calls Try.prog 22 #[(.string (s))] w (fun e w' => e = .returned (leafT 2 s false 0 0 false).v ∧ Ext none' w w') := by
 refine enter (n := 5) Try.func22 rfl rfl (Nat.le_of_ble_eq_true rfl) ?_
 intro a0 τ0 ha st0
 have e0 : get a0 0 = (.string (s)) := ha 0 _ rfl
 clear ha
 refine wp_seq ?_
 refine region_St (bf := [0]) (sp := [box _ _ 0 2 [(.int .i64 (0)), (.string ((⟨#[]⟩ : ByteArray))), (.bool (false)), (.slice none 0 0), (.int .i64 (0)), (.int .i64 (0)), (.bool (false)), (.slice none 0 0)]]) [] mixed st0 (by kernel_rfl) trivial
  ⟨Ob.alloc rfl rfl rfl rfl Try.zeroValue25 rfl, trivial⟩ ?_
 intro a1 w1 τ1 st1 f1
 obtain ⟨b1x2, e2⟩ : ∃ b, get a1 2 = b := ⟨_, rfl⟩
 obtain ⟨e0, -⟩ := f1.ks [(0, _)] ⟨e0, trivial⟩
 have r0 : boxR 25 [(.int .i64 (0)), (.string ((⟨#[]⟩ : ByteArray))), (.bool (false)), (.slice none 0 0), (.int .i64 (0)), (.int .i64 (0)), (.bool (false)), (.slice none 0 0)] (τ1 0) b1x2 w1 := f1.rb 0 e2 rfl
 clear f1
 show Code.wp _ _ _ a1 w1
 refine wp_seq ?_
 refine region_St (bf := [0, 1, 3]) (sp := [det _ 3 _, det _ 4 _, box _ _ 0 2 [(.int .i64 (2)), (.string (s)), (.bool (false)), (.slice none 0 0), (.int .i64 (0)), (.int .i64 (0)), (.bool (false)), (.slice none 0 0)]]) [ib r0] mixed st1 (by kernel_rfl) ⟨r0, trivial⟩
  ⟨Ob.d fun c => r_move rfl (c.p e0),
  Ob.d fun c => r_build (cells := #[(.int .i64 (2)), (.string (s)), (.bool (false)), (.slice none 0 0), (.int .i64 (0)), (.int .i64 (0)), (.bool (false)), (.slice none 0 0)]) rfl Try.underlying25 Try.zeroValue25 (pl := #[(0, 1), (1, 1), (2, 1), (3, 1), (4, 1), (5, 1), (6, 1), (7, 1)]) (fun w_ => by simp [Try.sizeOf22, Try.sizeOf23, Try.sizeOf3, Try.sizeOf4, Try.sizeOf9]) (fill2 rfl (c.n 0 rfl) rfl),
  Ob.storeBox (off := 0) (v := (.agg #[(.int .i64 (2)), (.string (s)), (.bool (false)), (.slice none 0 0), (.int .i64 (0)), (.int .i64 (0)), (.bool (false)), (.slice none 0 0)])) rfl rfl rfl rfl Try.sizeOf25 (Nat.le_of_ble_eq_true rfl) (by simp [Value.cells, Value.oneCell', Sv.v]) rfl (fun _ _ _ _ c => ⟨c.bp 0 rfl e2, c.ad ((c.p e2).trans r0.ptr) e2 rfl, (c.n 1 rfl)⟩), trivial⟩ ?_
 intro a2 w2 τ2 st2 f2
 obtain ⟨e2, -⟩ := f2.ks [(2, _)] ⟨e2, trivial⟩
 replace r0 : boxR 25 [(.int .i64 (2)), (.string (s)), (.bool (false)), (.slice none 0 0), (.int .i64 (0)), (.int .i64 (0)), (.bool (false)), (.slice none 0 0)] (τ2 0) b1x2 w2 := f2.rb 2 e2 rfl
 clear f2
 show Code.wp _ _ _ a2 w2
 refine wp_ret ?_
 repeat (first | with_reducible refine then_ret ?_ | with_reducible refine block_ret ?_)
 refine ret1c (fn := Try.f22) rfl st2.defers e2 r0 Try.isAgg25 Try.sizeOf25 rfl ?_
 exact ⟨rfl, st2.ext0⟩
theorem sameAB : sameF (leafT 2 ⟨#[97]⟩ false 0 0 false) (leafT 2 ⟨#[98]⟩ false 0 0 false) = false := by
  rw [← Bool.not_eq_true, sameF_iff]
  intro h
  exact absurd (congrArg Tr.ch h) (by decide)
set_option maxRecDepth 100000 in
theorem awake_c  (w : World) : Calls Try.prog 10 #[] w (fun e w' => e = .returned (.bool (true)) ∧ Ext none' w w') := by
 refine enter (n := 51) Try.func10 rfl rfl (Nat.le_of_ble_eq_true rfl) ?_
 intro a0 τ0 ha st0
 clear ha
 refine wp_seq ?_
 refine region_St (bf := [0]) (sp := [det _ 0 _]) [] mixed st0 (by kernel_rfl) trivial
  ⟨Ob.d fun c => r_assign rfl rfl, trivial⟩ ?_
 intro a1 w1 τ1 st1 f1
 have e0 : get a1 0 = (.bool (false)) := f1.v 0 rfl
 clear f1
 show Code.wp _ _ _ a1 w1
 refine wp_seq ?_
 refine region_St (bf := [0, 1, 3, 0, 0, 0, 63, 127, 255]) (sp := [det _ 5 _, det _ 6 _, det _ 7 _, box _ _ 0 1 [(.int .i64 (0)), (.string ((⟨#[]⟩ : ByteArray))), (.bool (false)), (.slice none 0 0), (.int .i64 (0)), (.int .i64 (0)), (.bool (false)), (.slice none 0 0)], box _ _ 1 2 [(.int .i64 (0)), (.string ((⟨#[]⟩ : ByteArray))), (.bool (false)), (.slice none 0 0), (.int .i64 (0)), (.int .i64 (0)), (.bool (false)), (.slice none 0 0)], box _ _ 2 3 [(.int .i64 (0)), (.string ((⟨#[]⟩ : ByteArray))), (.bool (false)), (.slice none 0 0), (.int .i64 (0)), (.int .i64 (0)), (.bool (false)), (.slice none 0 0)], box _ _ 0 1 [(.int .i64 ((leafT 2 (⟨#[97]⟩ : ByteArray) false 0 0 false).k)), (.string ((leafT 2 (⟨#[97]⟩ : ByteArray) false 0 0 false).ch)), (.bool ((leafT 2 (⟨#[97]⟩ : ByteArray) false 0 0 false).ng)), (leafT 2 (⟨#[97]⟩ : ByteArray) false 0 0 false).rv.v, (.int .i64 ((leafT 2 (⟨#[97]⟩ : ByteArray) false 0 0 false).mn)), (.int .i64 ((leafT 2 (⟨#[97]⟩ : ByteArray) false 0 0 false).mx)), (.bool ((leafT 2 (⟨#[97]⟩ : ByteArray) false 0 0 false).lz)), (leafT 2 (⟨#[97]⟩ : ByteArray) false 0 0 false).kv.v], box _ _ 1 2 [(.int .i64 ((leafT 2 (⟨#[98]⟩ : ByteArray) false 0 0 false).k)), (.string ((leafT 2 (⟨#[98]⟩ : ByteArray) false 0 0 false).ch)), (.bool ((leafT 2 (⟨#[98]⟩ : ByteArray) false 0 0 false).ng)), (leafT 2 (⟨#[98]⟩ : ByteArray) false 0 0 false).rv.v, (.int .i64 ((leafT 2 (⟨#[98]⟩ : ByteArray) false 0 0 false).mn)), (.int .i64 ((leafT 2 (⟨#[98]⟩ : ByteArray) false 0 0 false).mx)), (.bool ((leafT 2 (⟨#[98]⟩ : ByteArray) false 0 0 false).lz)), (leafT 2 (⟨#[98]⟩ : ByteArray) false 0 0 false).kv.v], box _ _ 2 3 [(.int .i64 ((leafT 2 (⟨#[99]⟩ : ByteArray) false 0 0 false).k)), (.string ((leafT 2 (⟨#[99]⟩ : ByteArray) false 0 0 false).ch)), (.bool ((leafT 2 (⟨#[99]⟩ : ByteArray) false 0 0 false).ng)), (leafT 2 (⟨#[99]⟩ : ByteArray) false 0 0 false).rv.v, (.int .i64 ((leafT 2 (⟨#[99]⟩ : ByteArray) false 0 0 false).mn)), (.int .i64 ((leafT 2 (⟨#[99]⟩ : ByteArray) false 0 0 false).mx)), (.bool ((leafT 2 (⟨#[99]⟩ : ByteArray) false 0 0 false).lz)), (leafT 2 (⟨#[99]⟩ : ByteArray) false 0 0 false).kv.v]]) [] mixed st1 (by kernel_rfl) trivial
  ⟨Ob.c fun c => ⟨_, _, (e_call1 rfl rfl Try.call22 rfl), char_c (⟨#[97]⟩ : ByteArray) _⟩,
  Ob.c fun c => ⟨_, _, (e_call1 rfl rfl Try.call22 rfl), char_c (⟨#[98]⟩ : ByteArray) _⟩,
  Ob.c fun c => ⟨_, _, (e_call1 rfl rfl Try.call22 rfl), char_c (⟨#[99]⟩ : ByteArray) _⟩,
  Ob.alloc rfl rfl rfl rfl Try.zeroValue25 rfl,
  Ob.alloc rfl rfl rfl rfl Try.zeroValue25 rfl,
  Ob.alloc rfl rfl rfl rfl Try.zeroValue25 rfl,
  Ob.storeBox (off := 0) (v := (.agg #[(.int .i64 ((leafT 2 (⟨#[97]⟩ : ByteArray) false 0 0 false).k)), (.string ((leafT 2 (⟨#[97]⟩ : ByteArray) false 0 0 false).ch)), (.bool ((leafT 2 (⟨#[97]⟩ : ByteArray) false 0 0 false).ng)), (leafT 2 (⟨#[97]⟩ : ByteArray) false 0 0 false).rv.v, (.int .i64 ((leafT 2 (⟨#[97]⟩ : ByteArray) false 0 0 false).mn)), (.int .i64 ((leafT 2 (⟨#[97]⟩ : ByteArray) false 0 0 false).mx)), (.bool ((leafT 2 (⟨#[97]⟩ : ByteArray) false 0 0 false).lz)), (leafT 2 (⟨#[97]⟩ : ByteArray) false 0 0 false).kv.v])) rfl rfl rfl rfl Try.sizeOf25 (Nat.le_of_ble_eq_true rfl) (by simp [Value.cells, Value.oneCell', Sv.v]) rfl (fun _ _ _ _ c => ⟨c.rb 3 rfl, (c.rb 3 rfl).ptr, (c.n 0 rfl)⟩),
  Ob.storeBox (off := 0) (v := (.agg #[(.int .i64 ((leafT 2 (⟨#[98]⟩ : ByteArray) false 0 0 false).k)), (.string ((leafT 2 (⟨#[98]⟩ : ByteArray) false 0 0 false).ch)), (.bool ((leafT 2 (⟨#[98]⟩ : ByteArray) false 0 0 false).ng)), (leafT 2 (⟨#[98]⟩ : ByteArray) false 0 0 false).rv.v, (.int .i64 ((leafT 2 (⟨#[98]⟩ : ByteArray) false 0 0 false).mn)), (.int .i64 ((leafT 2 (⟨#[98]⟩ : ByteArray) false 0 0 false).mx)), (.bool ((leafT 2 (⟨#[98]⟩ : ByteArray) false 0 0 false).lz)), (leafT 2 (⟨#[98]⟩ : ByteArray) false 0 0 false).kv.v])) rfl rfl rfl rfl Try.sizeOf25 (Nat.le_of_ble_eq_true rfl) (by simp [Value.cells, Value.oneCell', Sv.v]) rfl (fun _ _ _ _ c => ⟨c.rb 4 rfl, (c.rb 4 rfl).ptr, (c.n 1 rfl)⟩),
  Ob.storeBox (off := 0) (v := (.agg #[(.int .i64 ((leafT 2 (⟨#[99]⟩ : ByteArray) false 0 0 false).k)), (.string ((leafT 2 (⟨#[99]⟩ : ByteArray) false 0 0 false).ch)), (.bool ((leafT 2 (⟨#[99]⟩ : ByteArray) false 0 0 false).ng)), (leafT 2 (⟨#[99]⟩ : ByteArray) false 0 0 false).rv.v, (.int .i64 ((leafT 2 (⟨#[99]⟩ : ByteArray) false 0 0 false).mn)), (.int .i64 ((leafT 2 (⟨#[99]⟩ : ByteArray) false 0 0 false).mx)), (.bool ((leafT 2 (⟨#[99]⟩ : ByteArray) false 0 0 false).lz)), (leafT 2 (⟨#[99]⟩ : ByteArray) false 0 0 false).kv.v])) rfl rfl rfl rfl Try.sizeOf25 (Nat.le_of_ble_eq_true rfl) (by simp [Value.cells, Value.oneCell', Sv.v]) rfl (fun _ _ _ _ c => ⟨c.rb 5 rfl, (c.rb 5 rfl).ptr, (c.n 2 rfl)⟩), trivial⟩ ?_
 intro a2 w2 τ2 st2 f2
 obtain ⟨b2x1, e1⟩ : ∃ b, get a2 1 = b := ⟨_, rfl⟩
 obtain ⟨b2x2, e2⟩ : ∃ b, get a2 2 = b := ⟨_, rfl⟩
 obtain ⟨b2x3, e3⟩ : ∃ b, get a2 3 = b := ⟨_, rfl⟩
 obtain ⟨e0, -⟩ := f2.ks [(0, _)] ⟨e0, trivial⟩
 have r0 : boxR 25 [(.int .i64 ((leafT 2 (⟨#[97]⟩ : ByteArray) false 0 0 false).k)), (.string ((leafT 2 (⟨#[97]⟩ : ByteArray) false 0 0 false).ch)), (.bool ((leafT 2 (⟨#[97]⟩ : ByteArray) false 0 0 false).ng)), (leafT 2 (⟨#[97]⟩ : ByteArray) false 0 0 false).rv.v, (.int .i64 ((leafT 2 (⟨#[97]⟩ : ByteArray) false 0 0 false).mn)), (.int .i64 ((leafT 2 (⟨#[97]⟩ : ByteArray) false 0 0 false).mx)), (.bool ((leafT 2 (⟨#[97]⟩ : ByteArray) false 0 0 false).lz)), (leafT 2 (⟨#[97]⟩ : ByteArray) false 0 0 false).kv.v] (τ2 0) b2x1 w2 := f2.rb 6 e1 rfl
 have r1 : boxR 25 [(.int .i64 ((leafT 2 (⟨#[98]⟩ : ByteArray) false 0 0 false).k)), (.string ((leafT 2 (⟨#[98]⟩ : ByteArray) false 0 0 false).ch)), (.bool ((leafT 2 (⟨#[98]⟩ : ByteArray) false 0 0 false).ng)), (leafT 2 (⟨#[98]⟩ : ByteArray) false 0 0 false).rv.v, (.int .i64 ((leafT 2 (⟨#[98]⟩ : ByteArray) false 0 0 false).mn)), (.int .i64 ((leafT 2 (⟨#[98]⟩ : ByteArray) false 0 0 false).mx)), (.bool ((leafT 2 (⟨#[98]⟩ : ByteArray) false 0 0 false).lz)), (leafT 2 (⟨#[98]⟩ : ByteArray) false 0 0 false).kv.v] (τ2 1) b2x2 w2 := f2.rb 7 e2 rfl
 have r2 : boxR 25 [(.int .i64 ((leafT 2 (⟨#[99]⟩ : ByteArray) false 0 0 false).k)), (.string ((leafT 2 (⟨#[99]⟩ : ByteArray) false 0 0 false).ch)), (.bool ((leafT 2 (⟨#[99]⟩ : ByteArray) false 0 0 false).ng)), (leafT 2 (⟨#[99]⟩ : ByteArray) false 0 0 false).rv.v, (.int .i64 ((leafT 2 (⟨#[99]⟩ : ByteArray) false 0 0 false).mn)), (.int .i64 ((leafT 2 (⟨#[99]⟩ : ByteArray) false 0 0 false).mx)), (.bool ((leafT 2 (⟨#[99]⟩ : ByteArray) false 0 0 false).lz)), (leafT 2 (⟨#[99]⟩ : ByteArray) false 0 0 false).kv.v] (τ2 2) b2x3 w2 := f2.rb 8 e3 rfl
 clear f2
 show Code.wp _ _ _ a2 w2
 refine wp_seq ?_
 refine region_St (bf := [0, 0, 0, 6, 14, 31, 63, 0, 255]) (sp := [det _ 8 _, det _ 9 _, det _ 10 _, own TrE 25 _ 3 11 ([(leafT 2 (⟨#[98]⟩ : ByteArray) false 0 0 false), (leafT 2 (⟨#[99]⟩ : ByteArray) false 0 0 false)]), gzdet _ 12 (True) (fun b : Tr => b.v) (fun b : Tr => er b = seqF ([(leafT 2 (⟨#[98]⟩ : ByteArray) false 0 0 false), (leafT 2 (⟨#[99]⟩ : ByteArray) false 0 0 false)].map er)) (fun b : Tr => zTr (Gn none' w) b), gzown TrE 25 _ 4 13 (True) (fun b : Tr => [(leafT 2 (⟨#[97]⟩ : ByteArray) false 0 0 false), b]) (fun b : Tr => (fun b : Tr => er b = seqF ([(leafT 2 (⟨#[98]⟩ : ByteArray) false 0 0 false), (leafT 2 (⟨#[99]⟩ : ByteArray) false 0 0 false)].map er)) b) (fun b : Tr => ((fun b : Tr => zTr (Gn none' w) b) b)), gzdet _ 14 (True) (fun b : Tr => b.v) (fun b : Tr => er b = seqF ([(leafT 2 (⟨#[97]⟩ : ByteArray) false 0 0 false), (seqF ([(leafT 2 (⟨#[98]⟩ : ByteArray) false 0 0 false), (leafT 2 (⟨#[99]⟩ : ByteArray) false 0 0 false)].map er))].map er)) (fun b : Tr => zTr (Gn none' w) b), box _ _ 5 4 [(.int .i64 (0)), (.string ((⟨#[]⟩ : ByteArray))), (.bool (false)), (.slice none 0 0), (.int .i64 (0)), (.int .i64 (0)), (.bool (false)), (.slice none 0 0)], gzbox 25 _ 5 4 (fun b : Tr => [(.int .i64 (b.k)), (.string (b.ch)), (.bool (b.ng)), b.rv.v, (.int .i64 (b.mn)), (.int .i64 (b.mx)), (.bool (b.lz)), b.kv.v]) (fun b : Tr => er b = seqF ([(leafT 2 (⟨#[97]⟩ : ByteArray) false 0 0 false), (seqF ([(leafT 2 (⟨#[98]⟩ : ByteArray) false 0 0 false), (leafT 2 (⟨#[99]⟩ : ByteArray) false 0 0 false)].map er))].map er)) (fun b : Tr => zTr (Gn none' w) b)]) [ib r0, ib r1, ib r2] mixed st2 (by kernel_rfl) ⟨r0, r1, r2, trivial⟩
  ⟨Ob.d fun c => r_loadN (vs := [(.int .i64 ((leafT 2 (⟨#[97]⟩ : ByteArray) false 0 0 false).k)), (.string ((leafT 2 (⟨#[97]⟩ : ByteArray) false 0 0 false).ch)), (.bool ((leafT 2 (⟨#[97]⟩ : ByteArray) false 0 0 false).ng)), (leafT 2 (⟨#[97]⟩ : ByteArray) false 0 0 false).rv.v, (.int .i64 ((leafT 2 (⟨#[97]⟩ : ByteArray) false 0 0 false).mn)), (.int .i64 ((leafT 2 (⟨#[97]⟩ : ByteArray) false 0 0 false).mx)), (.bool ((leafT 2 (⟨#[97]⟩ : ByteArray) false 0 0 false).lz)), (leafT 2 (⟨#[97]⟩ : ByteArray) false 0 0 false).kv.v]) rfl Try.isAgg25 Try.sizeOf25 ((c.p e1).trans r0.ptr) rfl (fun _ _ hj => (c.ib 0 rfl).cell hj),
  Ob.d fun c => r_loadN (vs := [(.int .i64 ((leafT 2 (⟨#[98]⟩ : ByteArray) false 0 0 false).k)), (.string ((leafT 2 (⟨#[98]⟩ : ByteArray) false 0 0 false).ch)), (.bool ((leafT 2 (⟨#[98]⟩ : ByteArray) false 0 0 false).ng)), (leafT 2 (⟨#[98]⟩ : ByteArray) false 0 0 false).rv.v, (.int .i64 ((leafT 2 (⟨#[98]⟩ : ByteArray) false 0 0 false).mn)), (.int .i64 ((leafT 2 (⟨#[98]⟩ : ByteArray) false 0 0 false).mx)), (.bool ((leafT 2 (⟨#[98]⟩ : ByteArray) false 0 0 false).lz)), (leafT 2 (⟨#[98]⟩ : ByteArray) false 0 0 false).kv.v]) rfl Try.isAgg25 Try.sizeOf25 ((c.p e2).trans r1.ptr) rfl (fun _ _ hj => (c.ib 1 rfl).cell hj),
  Ob.d fun c => r_loadN (vs := [(.int .i64 ((leafT 2 (⟨#[99]⟩ : ByteArray) false 0 0 false).k)), (.string ((leafT 2 (⟨#[99]⟩ : ByteArray) false 0 0 false).ch)), (.bool ((leafT 2 (⟨#[99]⟩ : ByteArray) false 0 0 false).ng)), (leafT 2 (⟨#[99]⟩ : ByteArray) false 0 0 false).rv.v, (.int .i64 ((leafT 2 (⟨#[99]⟩ : ByteArray) false 0 0 false).mn)), (.int .i64 ((leafT 2 (⟨#[99]⟩ : ByteArray) false 0 0 false).mx)), (.bool ((leafT 2 (⟨#[99]⟩ : ByteArray) false 0 0 false).lz)), (leafT 2 (⟨#[99]⟩ : ByteArray) false 0 0 false).kv.v]) rfl Try.isAgg25 Try.sizeOf25 ((c.p e3).trans r2.ptr) rfl (fun _ _ hj => (c.ib 2 rfl).cell hj),
  Ob.buildSlice (cells := #[(.int .i64 ((leafT 2 (⟨#[98]⟩ : ByteArray) false 0 0 false).k)), (.string ((leafT 2 (⟨#[98]⟩ : ByteArray) false 0 0 false).ch)), (.bool ((leafT 2 (⟨#[98]⟩ : ByteArray) false 0 0 false).ng)), (leafT 2 (⟨#[98]⟩ : ByteArray) false 0 0 false).rv.v, (.int .i64 ((leafT 2 (⟨#[98]⟩ : ByteArray) false 0 0 false).mn)), (.int .i64 ((leafT 2 (⟨#[98]⟩ : ByteArray) false 0 0 false).mx)), (.bool ((leafT 2 (⟨#[98]⟩ : ByteArray) false 0 0 false).lz)), (leafT 2 (⟨#[98]⟩ : ByteArray) false 0 0 false).kv.v, (.int .i64 ((leafT 2 (⟨#[99]⟩ : ByteArray) false 0 0 false).k)), (.string ((leafT 2 (⟨#[99]⟩ : ByteArray) false 0 0 false).ch)), (.bool ((leafT 2 (⟨#[99]⟩ : ByteArray) false 0 0 false).ng)), (leafT 2 (⟨#[99]⟩ : ByteArray) false 0 0 false).rv.v, (.int .i64 ((leafT 2 (⟨#[99]⟩ : ByteArray) false 0 0 false).mn)), (.int .i64 ((leafT 2 (⟨#[99]⟩ : ByteArray) false 0 0 false).mx)), (.bool ((leafT 2 (⟨#[99]⟩ : ByteArray) false 0 0 false).lz)), (leafT 2 (⟨#[99]⟩ : ByteArray) false 0 0 false).kv.v]) rfl rfl rfl rfl Try.underlying23 Try.sizeOf25 Try.zeroValue25 rfl (by decide) (by decide) (fun _ _ _ _ c => fill2 (c.n 1 rfl) (c.n 2 rfl) (by kernel_rfl)) rfl,
  Ob.gz (f := fun b : Tr => b.v) (Ψ := fun b : Tr => er b = seqF ([(leafT 2 (⟨#[98]⟩ : ByteArray) false 0 0 false), (leafT 2 (⟨#[99]⟩ : ByteArray) false 0 0 false)].map er)) (Φ := fun b : Tr => zTr (Gn none' w) b) gd0 fun {_ a_ _ _} c hpc => ⟨_, _, (e_call1 rfl rfl Try.call13 (eval_tmp _ 11)), (seq_c _ [(leafT 2 (⟨#[98]⟩ : ByteArray) false 0 0 false), (leafT 2 (⟨#[99]⟩ : ByteArray) false 0 0 false)] _ (zl (G := none') (Z := none') (zcons (leafZ _ _ _ _ _ _ _ _ _) (zcons (leafZ _ _ _ _ _ _ _ _ _) znil)) (c.ro 3 rfl).1.sl) (by first | omega | decide | (simp only [List.map_cons, List.map_nil, sumL_cons, sumL_nil, wt_leaf, wt_node, ByteArray.size, List.size_toArray, List.length_cons, List.length_nil] at *; omega))).mono (fun e w' ⟨t_, he_, hx_, ht_, hq_⟩ => ⟨t_, he_, hx_, hq_, c.tn st2 hx_ ht_⟩)⟩,
  Ob.gzBuild (E := TrE) (xs := fun b : Tr => [(leafT 2 (⟨#[97]⟩ : ByteArray) false 0 0 false), b]) (Ψ := fun b : Tr => (fun b : Tr => er b = seqF ([(leafT 2 (⟨#[98]⟩ : ByteArray) false 0 0 false), (leafT 2 (⟨#[99]⟩ : ByteArray) false 0 0 false)].map er)) b) (Φ := fun b : Tr => ((fun b : Tr => zTr (Gn none' w) b) b)) (cells := fun b : Tr => #[(.int .i64 ((leafT 2 (⟨#[97]⟩ : ByteArray) false 0 0 false).k)), (.string ((leafT 2 (⟨#[97]⟩ : ByteArray) false 0 0 false).ch)), (.bool ((leafT 2 (⟨#[97]⟩ : ByteArray) false 0 0 false).ng)), (leafT 2 (⟨#[97]⟩ : ByteArray) false 0 0 false).rv.v, (.int .i64 ((leafT 2 (⟨#[97]⟩ : ByteArray) false 0 0 false).mn)), (.int .i64 ((leafT 2 (⟨#[97]⟩ : ByteArray) false 0 0 false).mx)), (.bool ((leafT 2 (⟨#[97]⟩ : ByteArray) false 0 0 false).lz)), (leafT 2 (⟨#[97]⟩ : ByteArray) false 0 0 false).kv.v, (.int .i64 (b.k)), (.string (b.ch)), (.bool (b.ng)), b.rv.v, (.int .i64 (b.mn)), (.int .i64 (b.mx)), (.bool (b.lz)), b.kv.v]) gd0 rfl Try.underlying23 Try.sizeOf25 Try.zeroValue25 (by decide) (by decide) (fun b => rfl) (fun b => rfl) fun c hpc => by obtain ⟨t1_, hv4, hqt1_, hzt1_⟩ := c.zd 4 rfl trivial; have hwt1_ := wt_seqb hqt1_; exact ⟨t1_, hqt1_, hzt1_, fill2 (c.n 0 rfl) hv4 (by kernel_rfl)⟩,
  Ob.gz (f := fun b : Tr => b.v) (Ψ := fun b : Tr => er b = seqF ([(leafT 2 (⟨#[97]⟩ : ByteArray) false 0 0 false), (seqF ([(leafT 2 (⟨#[98]⟩ : ByteArray) false 0 0 false), (leafT 2 (⟨#[99]⟩ : ByteArray) false 0 0 false)].map er))].map er)) (Φ := fun b : Tr => zTr (Gn none' w) b) gd0 fun {_ a_ _ _} c hpc => by obtain ⟨t1_, ho5, hqt1_, hzt1_⟩ := c.zo 5 rfl trivial; have hwt1_ := wt_seqb hqt1_; exact ⟨_, _, (e_call1 rfl rfl Try.call13 (eval_tmp _ 13)), (seq_c _ [(leafT 2 (⟨#[97]⟩ : ByteArray) false 0 0 false), t1_] _ (zl (zcons (leafZ _ _ _ _ _ _ _ _ _) (zcons hzt1_ znil)) ho5.1.sl) (by first | omega | decide | (simp only [List.map_cons, List.map_nil, sumL_cons, sumL_nil, wt_leaf, wt_node, ByteArray.size, List.size_toArray, List.length_cons, List.length_nil] at *; omega))).mono (fun e w' ⟨t_, he_, hx_, ht_, hq_⟩ => ⟨t_, he_, hx_, hq_.trans (by rw [← hqt1_]; simp only [List.map_cons, List.map_nil, er_er]), c.tn st2 hx_ ht_⟩)⟩,
  Ob.alloc rfl rfl rfl rfl Try.zeroValue25 rfl,
  Ob.gzStore (off := 0) (cells0 := [(.int .i64 (0)), (.string ((⟨#[]⟩ : ByteArray))), (.bool (false)), (.slice none 0 0), (.int .i64 (0)), (.int .i64 (0)), (.bool (false)), (.slice none 0 0)]) (cells := fun b : Tr => [(.int .i64 (b.k)), (.string (b.ch)), (.bool (b.ng)), b.rv.v, (.int .i64 (b.mn)), (.int .i64 (b.mx)), (.bool (b.lz)), b.kv.v]) (v := fun b : Tr => (.agg #[(.int .i64 (b.k)), (.string (b.ch)), (.bool (b.ng)), b.rv.v, (.int .i64 (b.mn)), (.int .i64 (b.mx)), (.bool (b.lz)), b.kv.v])) rfl rfl (fun b => Try.sizeOf25) (fun b => Nat.le_of_ble_eq_true rfl) (fun b => (by simp [Value.cells, Value.oneCell', Sv.v])) (fun b => rfl) fun c => by obtain ⟨t2_, hv6, hqt2_, hzt2_⟩ := c.zd 6 rfl trivial; have hwt2_ := wt_seqb hqt2_; exact ⟨t2_, hqt2_, hzt2_, c.rb 7 rfl, (c.rb 7 rfl).ptr, hv6⟩, trivial⟩ ?_
 intro a3 w3 τ3 st3 f3
 obtain ⟨b3x11, e11⟩ : ∃ b, get a3 11 = b := ⟨_, rfl⟩
 obtain ⟨b3x4, e4⟩ : ∃ b, get a3 4 = b := ⟨_, rfl⟩
 obtain ⟨e0, e1, e2, -⟩ := f3.ks [(0, _), (1, _), (2, _)] ⟨e0, e1, e2, trivial⟩
 replace r0 := f3.ib 0 rfl
 replace r1 := f3.ib 1 rfl
 obtain ⟨t2_, hro5, hqt2_, hz5⟩ := f3.gzb 8 e4 rfl
 have hwt2_ := wt_seqb hqt2_
 have r5 : boxR 25 [(.int .i64 (t2_.k)), (.string (t2_.ch)), (.bool (t2_.ng)), t2_.rv.v, (.int .i64 (t2_.mn)), (.int .i64 (t2_.mx)), (.bool (t2_.lz)), t2_.kv.v] (τ3 5) b3x4 w3 := hro5
 have r2 : Fz (zTr (Gn none' w) t2_) τ3 w3 := hz5
 clear f3
 obtain ⟨g1, g2, g3, g4, g5⟩ := er_fold hqt2_
 replace g5 := g5.trans (show _ = (7 : Int) from by kernel_rfl)
 have g6 := wtF_bound t2_
 show Code.wp _ _ _ a3 w3
 refine wp_seq ?_
 refine region_St (bf := [0, 1, 3, 7, 15, 31, 63, 127, 255, 511, 1023, 2047, 4095, 8191, 16383, 32767, 65535, 131071, 262143, 524287, 1048575, 2097151, 4194303, 8388607, 16777215, 33554431, 67108863, 67108863, 268435455, 536870911, 1073741823, 2147483647, 2147483647, 8589934591, 17179869183, 34359738367, 68719476735]) (sp := [det _ 15 _, det _ 16 _, det _ 17 _, det _ 18 _, gdet _ 19 _ _, gdet _ 20 _ _, gdet _ 21 _ _, gdet _ 22 _ _, det _ 23 _, det _ 24 _, gdet _ 25 _ _, gdet _ 26 _ _, det _ 27 _, det _ 28 _, gdet _ 29 _ _, gzdet _ 30 ((((decide (t2_.k = 0)) && (decide ((t2_.kids.length : Int) = 3))) && ((fitsF t2_ 512 16).2)) = true) (fun b : Sv => b.v) (fun _ => True) (fun b : Sv => zSl TrE (Gn none' w) b.v [(leafT 2 (⟨#[97]⟩ : ByteArray) false 0 0 false)]), gzdet _ 31 ((((decide (t2_.k = 0)) && (decide ((t2_.kids.length : Int) = 3))) && ((fitsF t2_ 512 16).2)) = true) (fun b : Tr => b.v) (fun b : Tr => er b = nodeT 0 (⟨#[]⟩ : ByteArray) false 0 0 false Sv.nil [(leafT 2 (⟨#[97]⟩ : ByteArray) false 0 0 false)]) (fun b : Tr => zTr (Gn none' w) b), gdet _ 32 _ _, gdet _ 33 _ _, det _ 34 _, det _ 35 _, gdet _ 36 _ _, gdet _ 37 _ _, gdet _ 38 _ _, det _ 39 _, det _ 40 _, gdet _ 41 _ _, gdet _ 42 _ _, gdet _ 43 _ _, det _ 44 _, det _ 45 _, gdet _ 46 _ _, gdet _ 47 _ _, gdet _ 48 _ _, gdet _ 49 _ _, det _ 50 _, det _ 0 _]) [ib r0, ib r1, iz r2, Ini.any _, Ini.any _, ib r5] mixed st3 (by kernel_rfl) ⟨r0, r1, r2, trivial, trivial, r5, trivial⟩
  ⟨Ob.d fun c => r_fieldAddr rfl Try.underlying25 rfl rfl Try.sizeOf3 ((c.p e4).trans r5.ptr),
  Ob.d fun c => r_load1 rfl Try.isAgg3 (c.n 0 rfl) ((c.ib 5 rfl).cell (j := 0) rfl),
  Ob.d fun c => r_eql rfl (c.n 1 rfl) rfl,
  Ob.d fun c => r_move rfl (c.n 2 rfl),
  Ob.g 3 true rfl fun c hpc => r_fieldAddr rfl Try.underlying25 rfl rfl Try.sizeOf23 ((c.p e4).trans r5.ptr),
  Ob.g 3 true rfl fun c hpc => r_load1 rfl Try.isAgg23 (c.m 4 rfl hpc) ((c.ib 5 rfl).cell (j := 7) rfl),
  Ob.g 3 true rfl fun c hpc => r_len rfl Try.underlying23 (c.m 5 rfl hpc) r2.s.tl.sl.sl,
  Ob.g 3 true rfl fun c hpc => r_eql rfl (c.m 6 rfl hpc) rfl,
  Ob.d fun c => r_and rfl (c.n 3 rfl) (fun h => c.m 7 rfl h),
  Ob.d fun c => r_move rfl (c.n 8 rfl),
  Ob.g 9 true rfl fun c hpc => r_loadN (vs := [(.int .i64 (t2_.k)), (.string (t2_.ch)), (.bool (t2_.ng)), t2_.rv.v, (.int .i64 (t2_.mn)), (.int .i64 (t2_.mx)), (.bool (t2_.lz)), t2_.kv.v]) rfl Try.isAgg25 Try.sizeOf25 ((c.p e4).trans r5.ptr) rfl (fun _ _ hj => (c.ib 5 rfl).cell hj),
  Ob.gc 9 true rfl fun c hpc => ⟨_, _, (e_call1 rfl rfl Try.call20 (c.m 10 rfl hpc)), may_c t2_ _ (zs (c.iz 2 rfl)) (by have hq0 := hpc; (try simp only [Bool.and_eq_true, decide_eq_true_eq] at hq0); first | omega | decide | (simp only [List.map_cons, List.map_nil, sumL_cons, sumL_nil, wt_leaf, wt_node, ByteArray.size, List.size_toArray, List.length_cons, List.length_nil] at *; omega))⟩,
  Ob.d fun c => r_and rfl (c.n 9 rfl) (fun h => c.m 11 rfl h),
  Ob.d fun c => r_move rfl (c.n 12 rfl),
  Ob.g 13 true rfl fun c hpc => r_loadN (vs := [(.int .i64 ((leafT 2 (⟨#[97]⟩ : ByteArray) false 0 0 false).k)), (.string ((leafT 2 (⟨#[97]⟩ : ByteArray) false 0 0 false).ch)), (.bool ((leafT 2 (⟨#[97]⟩ : ByteArray) false 0 0 false).ng)), (leafT 2 (⟨#[97]⟩ : ByteArray) false 0 0 false).rv.v, (.int .i64 ((leafT 2 (⟨#[97]⟩ : ByteArray) false 0 0 false).mn)), (.int .i64 ((leafT 2 (⟨#[97]⟩ : ByteArray) false 0 0 false).mx)), (.bool ((leafT 2 (⟨#[97]⟩ : ByteArray) false 0 0 false).lz)), (leafT 2 (⟨#[97]⟩ : ByteArray) false 0 0 false).kv.v]) rfl Try.isAgg25 Try.sizeOf25 ((c.p e1).trans r0.ptr) rfl (fun _ _ hj => (c.ib 0 rfl).cell hj),
  Ob.gzSl (E := TrE) (xs := [(leafT 2 (⟨#[97]⟩ : ByteArray) false 0 0 false)]) (cells := #[(.int .i64 ((leafT 2 (⟨#[97]⟩ : ByteArray) false 0 0 false).k)), (.string ((leafT 2 (⟨#[97]⟩ : ByteArray) false 0 0 false).ch)), (.bool ((leafT 2 (⟨#[97]⟩ : ByteArray) false 0 0 false).ng)), (leafT 2 (⟨#[97]⟩ : ByteArray) false 0 0 false).rv.v, (.int .i64 ((leafT 2 (⟨#[97]⟩ : ByteArray) false 0 0 false).mn)), (.int .i64 ((leafT 2 (⟨#[97]⟩ : ByteArray) false 0 0 false).mx)), (.bool ((leafT 2 (⟨#[97]⟩ : ByteArray) false 0 0 false).lz)), (leafT 2 (⟨#[97]⟩ : ByteArray) false 0 0 false).kv.v]) st3 (gd1 13 true) rfl Try.underlying23 Try.sizeOf25 Try.zeroValue25 (by decide) (by decide) rfl rfl fun c hpc => fill1 (c.m 14 rfl hpc) (by kernel_rfl),
  Ob.gzRun (f := fun b : Tr => b.v) (Ψ := fun b : Tr => er b = nodeT 0 (⟨#[]⟩ : ByteArray) false 0 0 false Sv.nil [(leafT 2 (⟨#[97]⟩ : ByteArray) false 0 0 false)]) (Φ := fun b : Tr => zTr (Gn none' w) b) (gd1 13 true) fun c hpc => by obtain ⟨kv3_, hv15, -, hzkv3_⟩ := c.zd 15 rfl hpc; exact ⟨nodeT 0 (⟨#[]⟩ : ByteArray) false 0 0 false kv3_ [(leafT 2 (⟨#[97]⟩ : ByteArray) false 0 0 false)], er_node _ _ _ _ _ _ _ _, nodeZ hzkv3_ (zcons (leafZ _ _ _ _ _ _ _ _ _) znil), r_build (cells := #[(.int .i64 (0)), (.string ((⟨#[]⟩ : ByteArray))), (.bool (false)), (.slice none 0 0), (.int .i64 (0)), (.int .i64 (0)), (.bool (false)), kv3_.v]) rfl Try.underlying25 Try.zeroValue25 (pl := #[(0, 1), (1, 1), (2, 1), (3, 1), (4, 1), (5, 1), (6, 1), (7, 1)]) (fun w_ => by simp [Try.sizeOf22, Try.sizeOf23, Try.sizeOf3, Try.sizeOf4, Try.sizeOf9]) (fill1 hv15 rfl)⟩,
  Ob.gc 13 true rfl fun c hpc => by obtain ⟨t4_, hv16, hqt4_, hzt4_⟩ := c.zd 16 rfl hpc; have hwt4_ := (er_fold hqt4_).2.2.2.2; exact ⟨_, _, (e_call1 rfl rfl Try.call20 hv16), Calls.isV (may_c t4_ _ (zs hzt4_) (by have hq0 := hpc; (try simp only [Bool.and_eq_true, decide_eq_true_eq] at hq0); first | omega | decide | (simp only [List.map_cons, List.map_nil, sumL_cons, sumL_nil, wt_leaf, wt_node, ByteArray.size, List.size_toArray, List.length_cons, List.length_nil] at *; omega))) (congrArg _ (show ((fitsF t4_ 512 16).2) = ((fitsF (nodeT 0 (⟨#[]⟩ : ByteArray) false 0 0 false Sv.nil [(leafT 2 (⟨#[97]⟩ : ByteArray) false 0 0 false)]) 512 16).2) from by first | (rw [← hqt4_]; simp only [fitsF_er, sameF_er2]) | (rw [← sameF_er2, hqt4_])))⟩,
  Ob.g 13 true rfl fun c hpc => r_not rfl (c.m 17 rfl hpc),
  Ob.d fun c => r_and rfl (c.n 13 rfl) (fun h => c.m 18 rfl h),
  Ob.d fun c => r_move rfl (c.n 19 rfl),
  Ob.g 20 true rfl fun c hpc => r_loadN (vs := [(.int .i64 (t2_.k)), (.string (t2_.ch)), (.bool (t2_.ng)), t2_.rv.v, (.int .i64 (t2_.mn)), (.int .i64 (t2_.mx)), (.bool (t2_.lz)), t2_.kv.v]) rfl Try.isAgg25 Try.sizeOf25 ((c.p e4).trans r5.ptr) rfl (fun _ _ hj => (c.ib 5 rfl).cell hj),
  Ob.gc 20 true rfl fun c hpc => ⟨_, _, (e_call1 rfl rfl Try.call19 (c.m 21 rfl hpc)), parts_c t2_ _ (zs (c.iz 2 rfl)) (by have hq0 := hpc; (try simp only [Bool.and_eq_true, Bool.and_eq_false_iff, Bool.not_eq_true', Bool.not_eq_false', decide_eq_true_eq, decide_eq_false_iff_not] at hq0); first | omega | decide | (simp only [List.map_cons, List.map_nil, sumL_cons, sumL_nil, wt_leaf, wt_node, ByteArray.size, List.size_toArray, List.length_cons, List.length_nil] at *; omega))⟩,
  Ob.g 20 true rfl fun c hpc => r_eql rfl (c.m 22 rfl hpc) rfl,
  Ob.d fun c => r_and rfl (c.n 20 rfl) (fun h => c.m 23 rfl h),
  Ob.d fun c => r_move rfl (c.n 24 rfl),
  Ob.g 25 true rfl fun c hpc => r_loadN (vs := [(.int .i64 (t2_.k)), (.string (t2_.ch)), (.bool (t2_.ng)), t2_.rv.v, (.int .i64 (t2_.mn)), (.int .i64 (t2_.mx)), (.bool (t2_.lz)), t2_.kv.v]) rfl Try.isAgg25 Try.sizeOf25 ((c.p e4).trans r5.ptr) rfl (fun _ _ hj => (c.ib 5 rfl).cell hj),
  Ob.g 25 true rfl fun c hpc => r_loadN (vs := [(.int .i64 (t2_.k)), (.string (t2_.ch)), (.bool (t2_.ng)), t2_.rv.v, (.int .i64 (t2_.mn)), (.int .i64 (t2_.mx)), (.bool (t2_.lz)), t2_.kv.v]) rfl Try.isAgg25 Try.sizeOf25 ((c.p e4).trans r5.ptr) rfl (fun _ _ hj => (c.ib 5 rfl).cell hj),
  Ob.gc 25 true rfl fun c hpc => ⟨_, _, (e_call2 rfl rfl Try.call11 (c.m 26 rfl hpc) (c.m 27 rfl hpc)), same_c t2_ t2_ _ (zs (c.iz 2 rfl)) (zs (c.iz 2 rfl))⟩,
  Ob.d fun c => r_and rfl (c.n 25 rfl) (fun h => c.m 28 rfl h),
  Ob.d fun c => r_move rfl (c.n 29 rfl),
  Ob.g 30 true rfl fun c hpc => r_loadN (vs := [(.int .i64 ((leafT 2 (⟨#[97]⟩ : ByteArray) false 0 0 false).k)), (.string ((leafT 2 (⟨#[97]⟩ : ByteArray) false 0 0 false).ch)), (.bool ((leafT 2 (⟨#[97]⟩ : ByteArray) false 0 0 false).ng)), (leafT 2 (⟨#[97]⟩ : ByteArray) false 0 0 false).rv.v, (.int .i64 ((leafT 2 (⟨#[97]⟩ : ByteArray) false 0 0 false).mn)), (.int .i64 ((leafT 2 (⟨#[97]⟩ : ByteArray) false 0 0 false).mx)), (.bool ((leafT 2 (⟨#[97]⟩ : ByteArray) false 0 0 false).lz)), (leafT 2 (⟨#[97]⟩ : ByteArray) false 0 0 false).kv.v]) rfl Try.isAgg25 Try.sizeOf25 ((c.p e1).trans r0.ptr) rfl (fun _ _ hj => (c.ib 0 rfl).cell hj),
  Ob.g 30 true rfl fun c hpc => r_loadN (vs := [(.int .i64 ((leafT 2 (⟨#[98]⟩ : ByteArray) false 0 0 false).k)), (.string ((leafT 2 (⟨#[98]⟩ : ByteArray) false 0 0 false).ch)), (.bool ((leafT 2 (⟨#[98]⟩ : ByteArray) false 0 0 false).ng)), (leafT 2 (⟨#[98]⟩ : ByteArray) false 0 0 false).rv.v, (.int .i64 ((leafT 2 (⟨#[98]⟩ : ByteArray) false 0 0 false).mn)), (.int .i64 ((leafT 2 (⟨#[98]⟩ : ByteArray) false 0 0 false).mx)), (.bool ((leafT 2 (⟨#[98]⟩ : ByteArray) false 0 0 false).lz)), (leafT 2 (⟨#[98]⟩ : ByteArray) false 0 0 false).kv.v]) rfl Try.isAgg25 Try.sizeOf25 ((c.p e2).trans r1.ptr) rfl (fun _ _ hj => (c.ib 1 rfl).cell hj),
  Ob.gc 30 true rfl fun c hpc => ⟨_, _, (e_call2 rfl rfl Try.call11 (c.m 31 rfl hpc) (c.m 32 rfl hpc)), same_c (leafT 2 (⟨#[97]⟩ : ByteArray) false 0 0 false) (leafT 2 (⟨#[98]⟩ : ByteArray) false 0 0 false) _ (leafTr _ _ _ _ _ _ _ _) (leafTr _ _ _ _ _ _ _ _)⟩,
  Ob.g 30 true rfl fun c hpc => r_not rfl (c.m 33 rfl hpc),
  Ob.d fun c => r_and rfl (c.n 30 rfl) (fun h => c.m 34 rfl h),
  Ob.d fun c => r_assign rfl (c.n 35 rfl), trivial⟩ ?_
 intro a4 w4 τ4 st4 f4
 have e0 : get a4 0 = (.bool (((((((decide (t2_.k = 0)) && (decide ((t2_.kids.length : Int) = 3))) && ((fitsF t2_ 512 16).2)) && (!((fitsF (nodeT 0 (⟨#[]⟩ : ByteArray) false 0 0 false Sv.nil [(leafT 2 (⟨#[97]⟩ : ByteArray) false 0 0 false)]) 512 16).2))) && (decide (partsF t2_ = 4))) && (sameF t2_ t2_)) && (!(sameF (leafT 2 (⟨#[97]⟩ : ByteArray) false 0 0 false) (leafT 2 (⟨#[98]⟩ : ByteArray) false 0 0 false))))) := f4.v 36 rfl
 replace r2 := f4.iz 2 rfl
 clear f4
 show Code.wp _ _ _ a4 w4
 refine wp_ret ?_
 repeat (first | with_reducible refine then_ret ?_ | with_reducible refine block_ret ?_)
 refine ret1 (fn := Try.f10) rfl st4.defers e0 ?_
 skip
 exact ⟨congrArg _ (congrArg _ (by rw [g1, g2, g3, g4, sameF_self, sameAB]; kernel_rfl)), st4.ext0⟩
end B
end Go.Proofs.Ytocmchlhbniloaa
namespace Go.Proofs.Ytocmchlhbniloaa
namespace B
open Srt
def seeF (cs : List ByteArray) (i : Nat) : ByteArray := if (cs.length : Int) ≤ (i : Int) then ⟨#[]⟩ else nth cs (i : Int)
def tkF (cs : List ByteArray) (i : Nat) (c : ByteArray) : Bool := !(decide ((cs.length : Int) ≤ (i : Int)) || (!(eqT (nth cs (i : Int)) c)))
def tkN (cs : List ByteArray) (i : Nat) (c : ByteArray) : Nat := if tkF cs i c = true then i + 1 else i
theorem tkN_t {cs : List ByteArray} {i : Nat} {c : ByteArray} (h : tkF cs i c = true) : tkN cs i c = i + 1 := if_pos h
theorem tkN_f {cs : List ByteArray} {i : Nat} {c : ByteArray} (h : tkF cs i c = false) : tkN cs i c = i := if_neg (by rw [h]; decide)
theorem tkN_le (cs : List ByteArray) (i : Nat) (c : ByteArray) : tkN cs i c ≤ i + 1 ∧ i ≤ tkN cs i c := by unfold tkN; split <;> omega
theorem tk_lt {cs : List ByteArray} {i : Nat} {c : ByteArray} (h : tkF cs i c = true) : i < cs.length := by
  simp [tkF] at h
  omega
theorem see_size {cs : List ByteArray} {i : Nat} (h : ((seeF cs i).size : Int) = 1) : i < cs.length := by
  unfold seeF at h
  split at h
  · exact absurd h (by decide)
  · omega
theorem see_ne {cs : List ByteArray} {i : Nat} (h : eqT (seeF cs i) (⟨#[]⟩ : ByteArray) = false) : i < cs.length := by
  unfold seeF at h
  split at h
  · exact absurd h (by decide +kernel)
  · omega
def letterB (n : Int) : Bool := (decide (65 ≤ n) && decide (n ≤ 90)) || (decide (97 ≤ n) && decide (n ≤ 122))
def digitB (n : Int) : Bool := decide (48 ≤ n) && decide (n ≤ 57)
def leaf0 : Tr := leafT 0 ⟨#[]⟩ false 0 0 false
def setT (ng : Bool) (rv : Sv) (rows : List Rw) : Tr := ⟨4, ⟨#[]⟩, ng, rv, rows, 0, 0, false, Sv.nil, []⟩
theorem er_set (ng : Bool) (rv : Sv) (rows : List Rw) : er (setT ng rv rows) = setT ng Sv.nil rows := by rw [er_eq]; rfl
theorem setZ {G Z : Foot} {w : World} {ng : Bool} {rv : Sv} {rows : List Rw} (h : (zSl RowE G rv.v rows).P Z w) : (zTr G (setT ng rv rows)).P Z w :=
  .mk h.1 h.2 (SlT.nil _ _) (fun h => absurd rfl h) (fun k h => by cases h)
def escF (c : ByteArray) : ByteArray × Bool :=
  if eqT c ⟨#[]⟩ = true then (⟨#[]⟩, false) else if eqT c ⟨#[110]⟩ = true then (⟨#[10]⟩, true) else if eqT c ⟨#[114]⟩ = true then (⟨#[13]⟩, true) else if eqT c ⟨#[116]⟩ = true then (⟨#[9]⟩, true)
  else if eqT c ⟨#[102]⟩ = true then (⟨#[12]⟩, true) else if eqT c ⟨#[118]⟩ = true then (⟨#[11]⟩, true)
  else if (decide ((c.size : Int) = 1) && (letterB (byteAt c 0) || digitB (byteAt c 0))) = true then (⟨#[]⟩, false) else (c, true)
def numL (cs : List ByteArray) : Nat → Int → Nat → Nat → Int × Nat × Nat
  | 0, n, m, i => (n, m, i)
  | f + 1, n, m, i => if ((decide ((m : Int) < 3) && decide (((seeF cs i).size : Int) = 1)) && digitB (byteAt (seeF cs i) 0)) = true then numL cs f (n * 10 + (byteAt (seeF cs i) 0 - 48)) (m + 1) (i + 1) else (n, m, i)
def numF (cs : List ByteArray) (i : Nat) : Int × Nat × Nat := numL cs 4 0 0 i
def numB (r : Int × Nat × Nat) : Bool := decide ((0 : Int) < (r.2.1 : Int)) && decide (r.1 ≤ 255)
theorem numL_le (cs : List ByteArray) : ∀ (f : Nat) (n : Int) (m i : Nat), i ≤ (numL cs f n m i).2.2 ∧ ((numL cs f n m i).2.2 ≤ cs.length ∨ (numL cs f n m i).2.2 = i)
  | 0, n, m, i => ⟨Nat.le_refl _, .inr rfl⟩
  | f + 1, n, m, i => by
    rw [numL]
    split
    · rename_i h
      simp only [Bool.and_eq_true, decide_eq_true_eq] at h
      have hlt := see_size h.1.2
      have := numL_le cs f (n * 10 + (byteAt (seeF cs i) 0 - 48)) (m + 1) (i + 1)
      omega
    · exact ⟨Nat.le_refl _, .inr rfl⟩
theorem numL_rg (cs : List ByteArray) : ∀ (f : Nat) (n : Int) (m i : Nat), 0 ≤ n → m ≤ 3 → n < 10 ^ m → 0 ≤ (numL cs f n m i).1 ∧ (numL cs f n m i).1 < 1000
  | 0, n, m, i => fun h0 hm h1 => ⟨h0, Int.lt_of_lt_of_le h1 (by
      show (10 : Int) ^ m ≤ 1000
      match m, hm with
      | 0, _ => decide
      | 1, _ => decide
      | 2, _ => decide
      | 3, _ => decide)⟩
  | f + 1, n, m, i => fun h0 hm h1 => by
    rw [numL]
    split
    · rename_i h
      simp only [Bool.and_eq_true, decide_eq_true_eq, digitB] at h
      refine numL_rg cs f _ (m + 1) (i + 1) (by omega) (by omega) ?_
      rw [Int.pow_succ]; omega
    · refine ⟨h0, Int.lt_of_lt_of_le h1 ?_⟩
      match m, hm with
      | 0, _ => decide
      | 1, _ => decide
      | 2, _ => decide
      | 3, _ => decide
theorem numF_rg (cs : List ByteArray) (i : Nat) : 0 ≤ (numF cs i).1 ∧ (numF cs i).1 < 1000 := numL_rg cs 4 0 0 i (by decide) (by decide) (by decide)
def repT (x : Tr) (mn mx : Int) (lz : Bool) : Tr := nodeT 7 ⟨#[]⟩ false mn mx lz Sv.nil [x]
def lazyF (cs : List ByteArray) (x : Tr) (j : Nat) (mn mx : Int) : Tr × Int × Nat := (repT x mn mx (tkF cs j ⟨#[63]⟩), 0, tkN cs j ⟨#[63]⟩)
def finF (cs : List ByteArray) (x : Tr) (mn mx : Int) (ok : Bool) (j : Nat) : Tr × Int × Nat :=
  if ok = false then (leaf0, 10, j) else if tkF cs j ⟨#[125]⟩ = false then (leaf0, 10, j) else if ((!decide (mx = -1)) && decide (mx < mn)) = true then (leaf0, 10, j + 1) else lazyF cs x (j + 1) mn mx
def timesF (cs : List ByteArray) (x : Tr) (i : Nat) : Tr × Int × Nat :=
  if tkF cs i ⟨#[42]⟩ = true then lazyF cs x (i + 1) 0 (-1)
  else if tkF cs i ⟨#[43]⟩ = true then lazyF cs x (i + 1) 1 (-1)
  else if tkF cs i ⟨#[63]⟩ = true then lazyF cs x (i + 1) 0 1
  else if tkF cs i ⟨#[123]⟩ = true then
    if numB (numF cs (i + 1)) = false then (leaf0, 10, (numF cs (i + 1)).2.2)
    else if tkF cs (numF cs (i + 1)).2.2 ⟨#[44]⟩ = true then
      if eqT (seeF cs ((numF cs (i + 1)).2.2 + 1)) ⟨#[125]⟩ = false then finF cs x (numF cs (i + 1)).1 (numF cs ((numF cs (i + 1)).2.2 + 1)).1 (numB (numF cs ((numF cs (i + 1)).2.2 + 1))) (numF cs ((numF cs (i + 1)).2.2 + 1)).2.2
      else finF cs x (numF cs (i + 1)).1 (-1) true ((numF cs (i + 1)).2.2 + 1)
    else finF cs x (numF cs (i + 1)).1 (numF cs (i + 1)).1 true (numF cs (i + 1)).2.2
  else (x, 0, i)
def itemF (cs : List ByteArray) (i : Nat) : List Rw × ByteArray × Bool × Nat :=
  if (eqT (seeF cs i) ⟨#[]⟩ || eqT (seeF cs i) ⟨#[93]⟩) = true then ([], ⟨#[]⟩, false, i)
  else if eqT (seeF cs i) ⟨#[92]⟩ = false then ([], seeF cs i, true, i + 1)
  else if (decide (((seeF cs (i + 1)).size : Int) = 1) && namedB (byteAt (seeF cs (i + 1)) 0)) = true then (namedF (byteAt (seeF cs (i + 1)) 0), ⟨#[]⟩, true, i + 2)
  else ([], (escF (seeF cs (i + 1))).1, (escF (seeF cs (i + 1))).2, i + 2)
def clsL (cs : List ByteArray) (ng : Bool) : Nat → Nat → List Rw → Tr × Int × Nat
  | 0, i, _ => (leaf0, 99, i)
  | f + 1, i, rows =>
    if tkF cs i ⟨#[93]⟩ = true then (setT ng Sv.nil (unionT rows), 0, i + 1)
    else if (itemF cs i).2.2.1 = false then (leaf0, 10, (itemF cs i).2.2.2)
    else if (0 : Int) < ((itemF cs i).1.length : Int) then clsL cs ng f (itemF cs i).2.2.2 (rows ++ (itemF cs i).1)
    else if ((eqT (seeF cs (itemF cs i).2.2.2) ⟨#[45]⟩ && decide (((itemF cs i).2.2.2 : Int) + 1 < (cs.length : Int))) && !(eqT (nth cs (((itemF cs i).2.2.2 : Int) + 1)) ⟨#[93]⟩)) = true then
      if (((!(itemF cs ((itemF cs i).2.2.2 + 1)).2.2.1) || decide ((0 : Int) < ((itemF cs ((itemF cs i).2.2.2 + 1)).1.length : Int))) || ltT (itemF cs ((itemF cs i).2.2.2 + 1)).2.1 (itemF cs i).2.1) = true then (leaf0, 10, (itemF cs ((itemF cs i).2.2.2 + 1)).2.2.2)
      else clsL cs ng f (itemF cs ((itemF cs i).2.2.2 + 1)).2.2.2 (rows ++ [((itemF cs i).2.1, (itemF cs ((itemF cs i).2.2.2 + 1)).2.1)])
    else clsL cs ng f (itemF cs i).2.2.2 (rows ++ [((itemF cs i).2.1, (itemF cs i).2.1)])
def clsF (cs : List ByteArray) (i : Nat) : Tr × Int × Nat := clsL cs (tkF cs i ⟨#[94]⟩) (cs.length + 1) (tkN cs i ⟨#[94]⟩) []
def backF (cs : List ByteArray) (i : Nat) : Tr × Int × Nat :=
  if (decide (((seeF cs i).size : Int) = 1) && namedB (byteAt (foldT (seeF cs i)) 0)) = true then (setT (!(eqT (seeF cs i) (foldT (seeF cs i)))) Sv.nil (namedF (byteAt (foldT (seeF cs i)) 0)), 0, i + 1)
  else if (escF (seeF cs i)).2 = false then (leaf0, 10, i)
  else (leafT 2 (escF (seeF cs i)).1 false 0 0 false, 0, i + 1)
def badC (c : ByteArray) : Bool := ((((((eqT c ⟨#[42]⟩ || eqT c ⟨#[43]⟩) || eqT c ⟨#[63]⟩) || eqT c ⟨#[41]⟩) || eqT c ⟨#[123]⟩) || eqT c ⟨#[124]⟩) || (!(properB c)))
def atomF (sub : Int → Nat → Tr × Int × Nat) (cs : List ByteArray) (d : Int) (i : Nat) : Tr × Int × Nat :=
  if tkF cs i ⟨#[46]⟩ = true then (leafT 3 ⟨#[]⟩ false 0 0 false, 0, i + 1)
  else if tkF cs i ⟨#[40]⟩ = true then
    if 16 ≤ d then (leaf0, 8, i + 1)
    else if tkF cs (i + 1) ⟨#[63]⟩ = true then
      if tkF cs (i + 2) ⟨#[58]⟩ = false then (leaf0, 10, i + 2)
      else if (sub (d + 1) (i + 3)).2.1 ≠ 0 then (leaf0, (sub (d + 1) (i + 3)).2.1, (sub (d + 1) (i + 3)).2.2)
      else if tkF cs (sub (d + 1) (i + 3)).2.2 ⟨#[41]⟩ = false then (leaf0, 10, (sub (d + 1) (i + 3)).2.2)
      else (nodeT 6 ⟨#[]⟩ false 0 0 false Sv.nil [(sub (d + 1) (i + 3)).1], 0, (sub (d + 1) (i + 3)).2.2 + 1)
    else if (sub (d + 1) (i + 1)).2.1 ≠ 0 then (leaf0, (sub (d + 1) (i + 1)).2.1, (sub (d + 1) (i + 1)).2.2)
    else if tkF cs (sub (d + 1) (i + 1)).2.2 ⟨#[41]⟩ = false then (leaf0, 10, (sub (d + 1) (i + 1)).2.2)
    else (nodeT 5 ⟨#[]⟩ false 0 0 false Sv.nil [(sub (d + 1) (i + 1)).1], 0, (sub (d + 1) (i + 1)).2.2 + 1)
  else if tkF cs i ⟨#[91]⟩ = true then clsF cs (i + 1)
  else if tkF cs i ⟨#[92]⟩ = true then backF cs (i + 1)
  else if badC (seeF cs i) = true then (leaf0, 10, i)
  else (leafT 2 (seeF cs i) false 0 0 false, 0, i + 1)
def edgeB (cs : List ByteArray) (i : Nat) (c : ByteArray) : Bool := (eqT (seeF cs i) ⟨#[92]⟩ && decide ((i : Int) + 1 < (cs.length : Int))) && eqT (nth cs ((i : Int) + 1)) c
def termF (sub : Int → Nat → Tr × Int × Nat) (cs : List ByteArray) (d : Int) (i : Nat) : Tr × Int × Nat :=
  if tkF cs i ⟨#[94]⟩ = true then (leafT 8 ⟨#[]⟩ false 0 0 false, 0, i + 1)
  else if tkF cs i ⟨#[36]⟩ = true then (leafT 9 ⟨#[]⟩ false 0 0 false, 0, i + 1)
  else if edgeB cs i ⟨#[98]⟩ = true then (leafT 10 ⟨#[]⟩ false 0 0 false, 0, i + 2)
  else if edgeB cs i ⟨#[66]⟩ = true then (leafT 11 ⟨#[]⟩ false 0 0 false, 0, i + 2)
  else if (atomF sub cs d i).2.1 ≠ 0 then (leaf0, (atomF sub cs d i).2.1, (atomF sub cs d i).2.2)
  else timesF cs (atomF sub cs d i).1 (atomF sub cs d i).2.2
def moreB (cs : List ByteArray) (i : Nat) : Bool := (decide ((i : Int) < (cs.length : Int)) && !(eqT (seeF cs i) ⟨#[124]⟩)) && !(eqT (seeF cs i) ⟨#[41]⟩)
def patF (cs : List ByteArray) : Nat → Int → Nat → List Tr → List Tr → Tr × Int × Nat
  | 0, _, i, _, _ => (leaf0, 99, i)
  | f + 1, d, i, alts, terms =>
    if moreB cs i = true then
      if (termF (fun d j => patF cs f d j [] []) cs d i).2.1 ≠ 0 then (leaf0, (termF (fun d j => patF cs f d j [] []) cs d i).2.1, (termF (fun d j => patF cs f d j [] []) cs d i).2.2)
      else patF cs f d (termF (fun d j => patF cs f d j [] []) cs d i).2.2 alts (terms ++ [(termF (fun d j => patF cs f d j [] []) cs d i).1])
    else if tkF cs i ⟨#[124]⟩ = true then patF cs f d (i + 1) (alts ++ [seqF terms]) []
    else (altF (alts ++ [seqF terms]), 0, i)
def readF (s : ByteArray) : Tr × Int :=
  if 256 < (s.size : Int) then (leaf0, 4)
  else if (patF (splitF s) ((splitF s).length + 1) 0 0 [] []).2.1 ≠ 0 then (leaf0, (patF (splitF s) ((splitF s).length + 1) 0 0 [] []).2.1)
  else if ((patF (splitF s) ((splitF s).length + 1) 0 0 [] []).2.2 : Int) < ((splitF s).length : Int) then (leaf0, 10)
  else ((patF (splitF s) ((splitF s).length + 1) 0 0 [] []).1, 0)
end B
end Go.Proofs.Ytocmchlhbniloaa
namespace Go.Proofs.Ytocmchlhbniloaa
namespace B
open Srt
theorem tkN_le2 (cs : List ByteArray) (i : Nat) (c : ByteArray) : i ≤ tkN cs i c ∧ (tkN cs i c ≤ cs.length ∨ tkN cs i c = i) := by
  unfold tkN
  split
  · rename_i h; have := tk_lt h; omega
  · omega
theorem esc_ne {c : ByteArray} (h : (escF c).2 = true) : eqT c (⟨#[]⟩ : ByteArray) = false := by
  cases hz : eqT c (⟨#[]⟩ : ByteArray) with
  | false => rfl
  | true =>
    simp only [escF] at h
    rw [if_pos hz] at h; cases h
theorem item_le {cs : List ByteArray} {i : Nat} (h : (itemF cs i).2.2.1 = true) : i < (itemF cs i).2.2.2 ∧ (itemF cs i).2.2.2 ≤ cs.length := by
  unfold itemF at h ⊢
  split at h
  · cases h
  · rename_i h0
    have hlt : i < cs.length := by
      rw [Bool.not_eq_true, Bool.or_eq_false_iff] at h0
      exact see_ne h0.1
    rw [if_neg h0]
    split at h
    · rename_i h1
      rw [if_pos h1]; simp; omega
    · rename_i h1
      rw [if_neg h1]
      split at h
      · rename_i h2
        rw [if_pos h2]
        rw [Bool.and_eq_true, decide_eq_true_eq] at h2
        have := see_size h2.1
        simp; omega
      · rename_i h2
        rw [if_neg h2]
        have := see_ne (esc_ne h)
        simp; omega
theorem lazy_le (cs : List ByteArray) (x : Tr) (j : Nat) (mn mx : Int) : j ≤ (lazyF cs x j mn mx).2.2 ∧ ((lazyF cs x j mn mx).2.2 ≤ cs.length ∨ (lazyF cs x j mn mx).2.2 = j) := tkN_le2 cs j _
theorem num_le (cs : List ByteArray) (i : Nat) : i ≤ (numF cs i).2.2 ∧ ((numF cs i).2.2 ≤ cs.length ∨ (numF cs i).2.2 = i) := numL_le cs 4 0 0 i
theorem fin_le {cs : List ByteArray} {x : Tr} {mn mx : Int} {ok : Bool} {j : Nat} (h : (finF cs x mn mx ok j).2.1 = 0) : j ≤ (finF cs x mn mx ok j).2.2 ∧ (finF cs x mn mx ok j).2.2 ≤ cs.length := by
  unfold finF at h ⊢
  split at h
  · cases h
  · rename_i h1
    rw [if_neg h1]
    split at h
    · cases h
    · rename_i h2
      rw [if_neg h2]
      split at h
      · cases h
      · rename_i h3
        rw [if_neg h3]
        have := tk_lt (by simpa using h2 : tkF cs j ⟨#[125]⟩ = true)
        have := lazy_le cs x (j + 1) mn mx
        omega
theorem times_le {cs : List ByteArray} {x : Tr} {i : Nat} (h : (timesF cs x i).2.1 = 0) : i ≤ (timesF cs x i).2.2 ∧ ((timesF cs x i).2.2 ≤ cs.length ∨ (timesF cs x i).2.2 = i) := by
  have one : ∀ c, tkF cs i c = true → ∀ mn mx, i ≤ (lazyF cs x (i + 1) mn mx).2.2 ∧ ((lazyF cs x (i + 1) mn mx).2.2 ≤ cs.length ∨ (lazyF cs x (i + 1) mn mx).2.2 = i) := fun c hc mn mx => by
    have := tk_lt hc
    have := lazy_le cs x (i + 1) mn mx
    omega
  unfold timesF at h ⊢
  split
  · exact one _ (by assumption) _ _
  · split
    · exact one _ (by assumption) _ _
    · split
      · exact one _ (by assumption) _ _
      · split
        · rename_i h1 h2 h3 h4
          rw [if_neg h1, if_neg h2, if_neg h3, if_pos h4] at h
          have a1 := tk_lt h4
          have a2 := num_le cs (i + 1)
          split
          · rename_i h5; rw [if_pos h5] at h; cases h
          · rename_i h5
            rw [if_neg h5] at h
            split
            · rename_i h6
              rw [if_pos h6] at h
              have a3 := num_le cs ((numF cs (i + 1)).2.2 + 1)
              split
              · rename_i h7
                rw [if_pos h7] at h
                have := fin_le h; omega
              · rename_i h7
                rw [if_neg h7] at h
                have := fin_le h; omega
            · rename_i h6
              rw [if_neg h6] at h
              have := fin_le h; omega
        · exact ⟨Nat.le_refl _, .inr rfl⟩
theorem clsL_le {cs : List ByteArray} {ng : Bool} : ∀ (f i : Nat) (rows : List Rw), (clsL cs ng f i rows).2.1 = 0 → i < (clsL cs ng f i rows).2.2 ∧ (clsL cs ng f i rows).2.2 ≤ cs.length
  | 0, i, rows, h => by cases h
  | f + 1, i, rows, h => by
    rw [clsL] at h ⊢
    split
    · rename_i h1
      have := tk_lt h1
      simp; omega
    · rename_i h1
      rw [if_neg h1] at h
      split
      · rename_i h2; rw [if_pos h2] at h; cases h
      · rename_i h2
        rw [if_neg h2] at h
        have a1 := item_le (by simpa using h2 : (itemF cs i).2.2.1 = true)
        split
        · rename_i h3
          rw [if_pos h3] at h
          have := clsL_le f _ _ h; omega
        · rename_i h3
          rw [if_neg h3] at h
          split
          · rename_i h4
            rw [if_pos h4] at h
            split
            · rename_i h5; rw [if_pos h5] at h; cases h
            · rename_i h5
              rw [if_neg h5] at h
              have h6 : (itemF cs ((itemF cs i).2.2.2 + 1)).2.2.1 = true := by
                rw [Bool.not_eq_true, Bool.or_eq_false_iff, Bool.or_eq_false_iff, Bool.not_eq_false'] at h5
                exact h5.1.1
              have a2 := item_le h6
              have := clsL_le f _ _ h; omega
          · rename_i h4
            rw [if_neg h4] at h
            have := clsL_le f _ _ h; omega
theorem cls_le {cs : List ByteArray} {i : Nat} (h : (clsF cs i).2.1 = 0) : i < (clsF cs i).2.2 ∧ (clsF cs i).2.2 ≤ cs.length := by
  have a1 := clsL_le _ _ _ h
  have a2 := tkN_le2 cs i (⟨#[94]⟩ : ByteArray)
  unfold clsF at h ⊢
  omega
theorem back_le {cs : List ByteArray} {i : Nat} (h : (backF cs i).2.1 = 0) : i < (backF cs i).2.2 ∧ (backF cs i).2.2 ≤ cs.length := by
  unfold backF at h ⊢
  split
  · rename_i h1
    rw [Bool.and_eq_true, decide_eq_true_eq] at h1
    have := see_size h1.1
    simp; omega
  · rename_i h1
    rw [if_neg h1] at h
    split
    · rename_i h2; rw [if_pos h2] at h; cases h
    · rename_i h2
      have := see_ne (esc_ne (by simpa using h2))
      simp; omega
def SubLe (cs : List ByteArray) (sub : Int → Nat → Tr × Int × Nat) : Prop := ∀ (d2 : Int) (j : Nat), (sub d2 j).2.1 = 0 → j ≤ (sub d2 j).2.2 ∧ ((sub d2 j).2.2 ≤ cs.length ∨ (sub d2 j).2.2 = j)
theorem atom_le {sub : Int → Nat → Tr × Int × Nat} {cs : List ByteArray} {d : Int} {i : Nat} (hs : SubLe cs sub) (h : (atomF sub cs d i).2.1 = 0) : i < (atomF sub cs d i).2.2 ∧ (atomF sub cs d i).2.2 ≤ cs.length := by
  unfold atomF at h ⊢
  split
  · rename_i h1
    have := tk_lt h1
    simp; omega
  · rename_i h1
    rw [if_neg h1] at h
    split
    · rename_i h2
      rw [if_pos h2] at h
      have a2 := tk_lt h2
      split
      · rename_i h3; rw [if_pos h3] at h; cases h
      · rename_i h3
        rw [if_neg h3] at h
        split
        · rename_i h4
          rw [if_pos h4] at h
          split
          · rename_i h5; rw [if_pos h5] at h; cases h
          · rename_i h5
            rw [if_neg h5] at h
            split
            · rename_i h6; rw [if_pos h6] at h; exact absurd h h6
            · rename_i h6
              rw [if_neg h6] at h
              split
              · rename_i h7; rw [if_pos h7] at h; cases h
              · rename_i h7
                have a3 := tk_lt (by simpa using h7 : tkF cs (sub (d + 1) (i + 3)).2.2 ⟨#[41]⟩ = true)
                have a4 := hs (d + 1) (i + 3) (Classical.byContradiction h6)
                simp; omega
        · rename_i h4
          rw [if_neg h4] at h
          split
          · rename_i h6; rw [if_pos h6] at h; exact absurd h h6
          · rename_i h6
            rw [if_neg h6] at h
            split
            · rename_i h7; rw [if_pos h7] at h; cases h
            · rename_i h7
              have a3 := tk_lt (by simpa using h7 : tkF cs (sub (d + 1) (i + 1)).2.2 ⟨#[41]⟩ = true)
              have a4 := hs (d + 1) (i + 1) (Classical.byContradiction h6)
              simp; omega
    · rename_i h2
      rw [if_neg h2] at h
      split
      · rename_i h3
        rw [if_pos h3] at h
        have := cls_le h; omega
      · rename_i h3
        rw [if_neg h3] at h
        split
        · rename_i h4
          rw [if_pos h4] at h
          have := back_le h; omega
        · rename_i h4
          rw [if_neg h4] at h
          split
          · rename_i h5; rw [if_pos h5] at h; cases h
          · rename_i h5
            have hne : eqT (seeF cs i) (⟨#[]⟩ : ByteArray) = false := by
              cases hz : eqT (seeF cs i) (⟨#[]⟩ : ByteArray) with
              | false => rfl
              | true =>
                rw [eqT_iff.1 hz] at h5
                exact absurd (by decide +kernel) h5
            have := see_ne hne
            simp; omega
theorem edge_lt {cs : List ByteArray} {i : Nat} {c : ByteArray} (h : edgeB cs i c = true) : i + 1 < cs.length := by
  unfold edgeB at h
  simp only [Bool.and_eq_true, decide_eq_true_eq] at h
  omega
theorem term_le {sub : Int → Nat → Tr × Int × Nat} {cs : List ByteArray} {d : Int} {i : Nat} (hs : SubLe cs sub) (h : (termF sub cs d i).2.1 = 0) : i < (termF sub cs d i).2.2 ∧ (termF sub cs d i).2.2 ≤ cs.length := by
  unfold termF at h ⊢
  split
  · rename_i h1
    have := tk_lt h1
    simp; omega
  · rename_i h1
    rw [if_neg h1] at h
    split
    · rename_i h2
      have := tk_lt h2
      simp; omega
    · rename_i h2
      rw [if_neg h2] at h
      split
      · rename_i h3
        have := edge_lt h3
        simp; omega
      · rename_i h3
        rw [if_neg h3] at h
        split
        · rename_i h4
          have := edge_lt h4
          simp; omega
        · rename_i h4
          rw [if_neg h4] at h
          split
          · rename_i h5; rw [if_pos h5] at h; exact absurd h h5
          · rename_i h5
            rw [if_neg h5] at h
            have a1 := atom_le hs (Classical.byContradiction h5)
            have a2 := times_le h
            omega
theorem pat_le (cs : List ByteArray) : ∀ (f : Nat) (d : Int) (i : Nat) (alts terms : List Tr), (patF cs f d i alts terms).2.1 = 0 → i ≤ (patF cs f d i alts terms).2.2 ∧ ((patF cs f d i alts terms).2.2 ≤ cs.length ∨ (patF cs f d i alts terms).2.2 = i)
  | 0, d, i, alts, terms, h => by cases h
  | f + 1, d, i, alts, terms, h => by
    have hs : SubLe cs fun d j => patF cs f d j [] [] := fun d j hh => pat_le cs f d j [] [] hh
    rw [patF] at h ⊢
    split
    · rename_i h1
      rw [if_pos h1] at h
      split
      · rename_i h2; rw [if_pos h2] at h; exact absurd h h2
      · rename_i h2
        rw [if_neg h2] at h
        have a1 := term_le hs (Classical.byContradiction h2)
        have := pat_le cs f d _ _ _ h
        omega
    · rename_i h1
      rw [if_neg h1] at h
      split
      · rename_i h2
        rw [if_pos h2] at h
        have a1 := tk_lt h2
        have := pat_le cs f d _ _ _ h
        omega
      · exact ⟨Nat.le_refl _, .inr rfl⟩
end B
end Go.Proofs.Ytocmchlhbniloaa
namespace Go.Proofs.Ytocmchlhbniloaa
namespace B
open Srt
def ltS (x y : Int × Int) : Bool := decide (cmpS x y < 0)
theorem cmpS_eq (x y : Int × Int) : cmpS x y = if x.1 < y.1 then -1 else if y.1 < x.1 then 1 else if x.2 < y.2 then -1 else if y.2 < x.2 then 1 else 0 := by
  unfold cmpS orF cmpI
  by_cases h1 : x.1 < y.1 <;> by_cases h2 : y.1 < x.1 <;> by_cases h3 : x.2 < y.2 <;> by_cases h4 : y.2 < x.2 <;> simp [h1, h2, h3, h4, List.find?]
theorem ltS_iff (x y : Int × Int) : ltS x y = true ↔ x.1 < y.1 ∨ (x.1 = y.1 ∧ x.2 < y.2) := by
  unfold ltS
  rw [cmpS_eq, decide_eq_true_eq]
  split
  · constructor <;> intro _ <;> omega
  · split
    · constructor <;> intro _ <;> omega
    · split
      · constructor <;> intro _ <;> omega
      · split
        · constructor <;> intro _ <;> omega
        · constructor <;> intro _ <;> omega
def joinHit (acc : List (Int × Int)) (p : Int × Int) : Bool := decide (0 ≤ (acc.length : Int) - 1) && touchB (nth acc ((acc.length : Int) - 1)) p
def joinStep (acc : List (Int × Int)) (p : Int × Int) : List (Int × Int) :=
  if joinHit acc p = true then acc.set ((acc.length : Int) - 1).toNat ((nth acc ((acc.length : Int) - 1)).1, max (nth acc ((acc.length : Int) - 1)).2 p.2) else acc ++ [p]
def joinF (xs : List (Int × Int)) : List (Int × Int) := xs.foldl joinStep []
theorem joinF_snoc (xs : List (Int × Int)) (p : Int × Int) : joinF (xs ++ [p]) = joinStep (joinF xs) p := by simp [joinF]
theorem touchB_iff {p q : Int × Int} : touchB p q = true ↔ max p.1 q.1 ≤ min p.2 q.2 := by simp [touchB]
theorem nth_last (A : List (Int × Int)) (l : Int × Int) : nth (A ++ [l]) (((A ++ [l]).length : Int) - 1) = l :=
  nth_app (A := A) (B := []) (by simp)
theorem joinStep_nil (q : Int × Int) : joinStep [] q = [q] := by simp [joinStep, joinHit]
theorem joinStep_snoc (A : List (Int × Int)) (l q : Int × Int) : joinStep (A ++ [l]) q = if touchB l q = true then A ++ [(l.1, max l.2 q.2)] else A ++ [l] ++ [q] := by
  have h1 : joinHit (A ++ [l]) q = touchB l q := by
    unfold joinHit
    rw [nth_last, decide_eq_true (by simp), Bool.true_and]
  unfold joinStep
  rw [h1, nth_last]
  split
  · rw [show (((A ++ [l]).length : Int) - 1).toNat = A.length by simp]
    simp
  · rfl
def cov (xs : List (Int × Int)) (y : Int) : Prop := ∃ p ∈ xs, 2 * p.1 ≤ y ∧ y ≤ 2 * p.2
def Sep (xs : List (Int × Int)) : Prop := (∀ p ∈ xs, p.1 ≤ p.2) ∧ xs.Pairwise fun p q => p.2 < q.1
theorem cov_append (xs ys : List (Int × Int)) (y : Int) : cov (xs ++ ys) y ↔ cov xs y ∨ cov ys y := by
  simp only [cov, List.mem_append]
  constructor
  · rintro ⟨p, hp | hp, h⟩
    · exact .inl ⟨p, hp, h⟩
    · exact .inr ⟨p, hp, h⟩
  · rintro (⟨p, hp, h⟩ | ⟨p, hp, h⟩)
    · exact ⟨p, .inl hp, h⟩
    · exact ⟨p, .inr hp, h⟩
theorem cov_one (p : Int × Int) (y : Int) : cov [p] y ↔ 2 * p.1 ≤ y ∧ y ≤ 2 * p.2 := by simp [cov]
theorem cov_mem {xs ys : List (Int × Int)} (h : ∀ p, p ∈ xs ↔ p ∈ ys) (y : Int) : cov xs y ↔ cov ys y := by
  simp only [cov, h]
theorem joinF_spec (ys : List (Int × Int)) (hs : Sorted ltS ys) (ho : ∀ p ∈ ys, p.1 ≤ p.2) :
    Sep (joinF ys) ∧ (∀ y, cov (joinF ys) y ↔ cov ys y) ∧ ∀ l ∈ joinF ys, ∃ p ∈ ys, l.1 = p.1 := by
  induction ys using snoc_ind with
  | h0 => exact ⟨⟨fun p hp => by simp [joinF] at hp, by simp [joinF]⟩, fun y => Iff.rfl, fun l hl => by simp [joinF] at hl⟩
  | h1 ys q ih =>
    obtain ⟨hs1, _, hs2⟩ := List.pairwise_append.1 hs
    obtain ⟨⟨i1, i2⟩, i3, i4⟩ := ih hs1 (fun p hp => ho p (by simp [hp]))
    have hq := ho q (by simp)
    have hle : ∀ l ∈ joinF ys, l.1 ≤ q.1 := by
      intro l hl
      obtain ⟨p, hp, e⟩ := i4 l hl
      have := hs2 p hp q (by simp)
      rw [← Bool.not_eq_true, ltS_iff] at this
      omega
    rw [joinF_snoc]
    cases hys : joinF ys with
    | nil =>
      rw [hys] at i3
      rw [joinStep_nil]
      refine ⟨⟨by simpa using hq, by simp⟩, fun y => ?_, fun l hl => ⟨q, by simp, by simp at hl; rw [hl]⟩⟩
      rw [cov_append, ← i3]
      simp [cov]
    | cons a l0 =>
      obtain ⟨A, l, e⟩ : ∃ A l', a :: l0 = A ++ [l'] := ⟨(a :: l0).dropLast, (a :: l0).getLast (by simp), (List.dropLast_concat_getLast _).symm⟩
      rw [hys, e] at i1 i2 i3 i4 hle
      rw [e, joinStep_snoc]
      obtain ⟨j1, _, j2⟩ := List.pairwise_append.1 i2
      have hl1 := hle l (by simp)
      have hl2 := i1 l (by simp)
      split
      · rename_i ht
        rw [touchB_iff] at ht
        refine ⟨⟨fun p hp => ?_, List.pairwise_append.2 ⟨j1, by simp, fun p hp r hr => ?_⟩⟩, fun y => ?_, fun r hr => ?_⟩
        · rcases List.mem_append.1 hp with hp | hp
          · exact i1 p (by simp [hp])
          · simp at hp; subst hp; show l.1 ≤ max l.2 q.2; omega
        · simp at hr; subst hr; exact j2 p hp l (by simp)
        · rw [cov_append, cov_append, cov_one, cov_one, ← i3, cov_append, cov_one]
          show _ ∨ (2 * l.1 ≤ y ∧ y ≤ 2 * max l.2 q.2) ↔ _
          constructor
          · rintro (h | h)
            · exact .inl (.inl h)
            · by_cases hy : y ≤ 2 * l.2
              · exact .inl (.inr ⟨h.1, hy⟩)
              · exact .inr ⟨by omega, by omega⟩
          · rintro ((h | h) | h)
            · exact .inl h
            · exact .inr ⟨h.1, by omega⟩
            · exact .inr ⟨by omega, by omega⟩
        · rcases List.mem_append.1 hr with hr | hr
          · obtain ⟨p, hp, e⟩ := i4 r (by simp [hr]); exact ⟨p, by simp [hp], e⟩
          · simp at hr; subst hr
            obtain ⟨p, hp, e⟩ := i4 l (by simp); exact ⟨p, by simp [hp], e⟩
      · rename_i ht
        rw [touchB_iff] at ht
        refine ⟨⟨fun p hp => ?_, List.pairwise_append.2 ⟨i2, by simp, fun p hp r hr => ?_⟩⟩, fun y => ?_, fun r hr => ?_⟩
        · rcases List.mem_append.1 hp with hp | hp
          · exact i1 p hp
          · simp at hp; subst hp; exact hq
        · simp at hr; subst hr
          rcases List.mem_append.1 hp with hp | hp
          · have := j2 p hp l (by simp); omega
          · simp at hp; subst hp; omega
        · rw [cov_append, cov_append (ys), i3]
        · rcases List.mem_append.1 hr with hr | hr
          · obtain ⟨p, hp, e⟩ := i4 r hr; exact ⟨p, by simp [hp], e⟩
          · simp at hr; subst hr; exact ⟨r, by simp, rfl⟩
end B
end Go.Proofs.Ytocmchlhbniloaa
namespace Go.Proofs.Ytocmchlhbniloaa
namespace B
open Srt
theorem ltS_swo : Swo ltS := by
  constructor
  · intro x y h
    rw [← Bool.not_eq_true, ltS_iff]
    rw [ltS_iff] at h; omega
  · intro x y z h1 h2
    rw [← Bool.not_eq_true, ltS_iff] at h1 h2 ⊢
    omega
section
variable {α β : Type} [Inhabited α] [Inhabited β]
omit [Inhabited α] [Inhabited β] in
theorem insRev_map {lt : α → α → Bool} {lt' : β → β → Bool} {f : α → β} {x : α} : ∀ {ys : List α}, (∀ y ∈ ys, lt x y = lt' (f x) (f y)) → (insRev lt x ys).map f = insRev lt' (f x) (ys.map f)
  | [], _ => rfl
  | y :: ys, h => by
    have h0 := h y (by simp)
    have ih := insRev_map (lt := lt) (lt' := lt') (f := f) (x := x) (ys := ys) fun z hz => h z (by simp [hz])
    simp only [insRev, List.map_cons]
    rw [← h0]
    split <;> simp [ih]
omit [Inhabited α] [Inhabited β] in
theorem ins_map {lt : α → α → Bool} {lt' : β → β → Bool} {f : α → β} {x : α} {ys : List α} (h : ∀ y ∈ ys, lt x y = lt' (f x) (f y)) : (ins lt x ys).map f = ins lt' (f x) (ys.map f) := by
  unfold ins
  rw [List.map_reverse, insRev_map (lt' := lt') (f := f) (fun y hy => h y (by simpa using hy)), List.map_reverse]
omit [Inhabited α] [Inhabited β] in
theorem isort_map {lt : α → α → Bool} {lt' : β → β → Bool} {f : α → β} {xs : List α} (h : ∀ x ∈ xs, ∀ y ∈ xs, lt x y = lt' (f x) (f y)) : (isort lt xs).map f = isort lt' (xs.map f) := by
  induction xs using snoc_ind with
  | h0 => rfl
  | h1 xs x ih =>
    rw [isort_snoc, List.map_append, List.map_cons, List.map_nil, isort_snoc, ← ih fun a ha b hb => h a (by simp [ha]) b (by simp [hb])]
    exact ins_map fun y hy => h x (by simp) y (by simp [((isort_perm (lt := lt) xs).mem_iff).1 hy])
end
def In (S : List ByteArray) (p : Rw) : Prop := p.1 ∈ S ∧ p.2 ∈ S
def f2 (S : List ByteArray) (p : Rw) : Int × Int := (rk S p.1, rk S p.2)
theorem f2_lt {S : List ByteArray} {p q : Rw} (hp : In S p) (hq : In S q) : ltR p q = ltS (f2 S p) (f2 S q) := by
  rw [Bool.eq_iff_iff, ltR_iff, ltS_iff, rk_iff hp.1 hq.1, rk_iff hp.2 hq.2]
  constructor
  · rintro (h | ⟨e, h⟩)
    · exact .inl h
    · exact .inr ⟨by simp only [f2]; rw [e], h⟩
  · rintro (h | ⟨e, h⟩)
    · exact .inl h
    · exact .inr ⟨rk_inj hp.1 hq.1 e, h⟩
def Ok (S : List ByteArray) (xs : List Rw) : Prop := ∀ p ∈ xs, rowB p = true ∧ In S p
theorem ok_le {S : List ByteArray} {p : Rw} (h : rowB p = true ∧ In S p) : (f2 S p).1 ≤ (f2 S p).2 := by
  have := h.1
  unfold rowB at this
  rw [Bool.and_eq_true] at this
  exact (rk_le h.2.1 h.2.2).1 this.2
theorem rk_max {S : List ByteArray} {x y : ByteArray} (hx : x ∈ S) (hy : y ∈ S) : rk S (maxT x y) = max (rk S x) (rk S y) := (maxT_mem hx hy).2
theorem join_map {S : List ByteArray} (ys : List Rw) (hok : Ok S ys) (hs : Sorted ltS (ys.map (f2 S))) :
    (joinT ys).map (f2 S) = joinF (ys.map (f2 S)) ∧ ∀ l ∈ joinT ys, (∃ p ∈ ys, l.1 = p.1) ∧ ∃ p ∈ ys, l.2 = p.2 := by
  induction ys using snoc_ind with
  | h0 => exact ⟨rfl, fun l hl => by simp [joinT] at hl⟩
  | h1 ys q ih =>
    rw [List.map_append, List.map_cons, List.map_nil] at hs ⊢
    obtain ⟨hs1, _, hs2⟩ := List.pairwise_append.1 hs
    have hok1 : Ok S ys := fun p hp => hok p (by simp [hp])
    obtain ⟨i1, i2⟩ := ih hok1 hs1
    have hsp := joinF_spec (ys.map (f2 S)) hs1 (fun p hp => by obtain ⟨r, hr, rfl⟩ := List.mem_map.1 hp; exact ok_le (hok1 r hr))
    have hq := hok q (by simp)
    have hin : ∀ l ∈ joinT ys, In S l := fun l hl => by
      obtain ⟨⟨p, hp, e1⟩, r, hr, e2⟩ := i2 l hl
      exact ⟨e1 ▸ (hok1 p hp).2.1, e2 ▸ (hok1 r hr).2.2⟩
    rw [joinT_snoc, joinF_snoc, ← i1]
    cases hjt : joinT ys using snoc_ind with
    | h0 =>
      have e : stepT [] q = [q] := by simp [stepT, hitT]
      rw [e, List.map_nil, joinStep_nil]
      exact ⟨rfl, fun l hl => by simp at hl; subst hl; exact ⟨⟨l, by simp, rfl⟩, l, by simp, rfl⟩⟩
    | h1 A l =>
      rw [hjt] at i1 i2 hin
      have hl := hin l (by simp)
      have hn : nth (A ++ [l]) (((A ++ [l]).length : Int) - 1) = l := nth_app (A := A) (B := []) (by simp)
      have hle : (f2 S l).1 ≤ (f2 S q).1 := by
        obtain ⟨⟨p, hp, e⟩, _⟩ := i2 l (by simp)
        have := hs2 (f2 S p) (List.mem_map.2 ⟨p, hp, rfl⟩) (f2 S q) (by simp)
        rw [← Bool.not_eq_true, ltS_iff] at this
        have e' : (f2 S l).1 = (f2 S p).1 := by simp only [f2]; rw [e]
        omega
      have hll : (f2 S l).1 ≤ (f2 S l).2 := by
        have h3 := hsp.1.1
        rw [← i1] at h3
        exact h3 (f2 S l) (by simp)
      have hqq := ok_le hq
      have hhit : hitT (A ++ [l]) q = touchB (f2 S l) (f2 S q) := by
        unfold hitT
        rw [hn, decide_eq_true (by simp), Bool.true_and, Bool.eq_iff_iff, rk_le hq.2.1 hl.2, touchB_iff]
        show (f2 S q).1 ≤ (f2 S l).2 ↔ _
        omega
      rw [List.map_append, List.map_cons, List.map_nil, joinStep_snoc, stepT, hhit, hn, show (((A ++ [l]).length : Int) - 1).toNat = A.length by simp]
      split
      · refine ⟨?_, fun r hr => ?_⟩
        · simp [f2, rk_max hl.2 hq.2.2]
        · simp at hr
          rcases hr with hr | rfl
          · obtain ⟨⟨p, hp, e⟩, p', hp', e'⟩ := i2 r (by simp [hr])
            exact ⟨⟨p, by simp [hp], e⟩, p', by simp [hp'], e'⟩
          · obtain ⟨⟨p, hp, e⟩, p', hp', e'⟩ := i2 l (by simp)
            refine ⟨⟨p, by simp [hp], e⟩, ?_⟩
            unfold maxT
            split
            · exact ⟨q, by simp, rfl⟩
            · exact ⟨p', by simp [hp'], e'⟩
      · refine ⟨by simp, fun r hr => ?_⟩
        rcases List.mem_append.1 hr with hr | hr
        · obtain ⟨⟨p, hp, e⟩, p', hp', e'⟩ := i2 r hr
          exact ⟨⟨p, by simp [hp], e⟩, p', by simp [hp'], e'⟩
        · simp at hr; subst hr; exact ⟨⟨r, by simp, rfl⟩, r, by simp, rfl⟩
theorem union_spec {S : List ByteArray} {xs : List Rw} (h : Ok S (xs.filter rowB)) :
    Sep ((unionT xs).map (f2 S)) ∧ (∀ y, cov ((unionT xs).map (f2 S)) y ↔ cov ((xs.filter rowB).map (f2 S)) y) ∧ ∀ l ∈ unionT xs, (∃ p ∈ xs.filter rowB, l.1 = p.1) ∧ ∃ p ∈ xs.filter rowB, l.2 = p.2 := by
  have hp := isort_perm (lt := ltR) (xs.filter rowB)
  have hok : Ok S (isort ltR (xs.filter rowB)) := fun p hm => h p (hp.mem_iff.1 hm)
  have hm := isort_map (lt := ltR) (lt' := ltS) (f := f2 S) (xs := xs.filter rowB) fun x hx y hy => f2_lt (h x hx).2 (h y hy).2
  have hs : Sorted ltS ((isort ltR (xs.filter rowB)).map (f2 S)) := by rw [hm]; exact isort_sorted ltS_swo _
  obtain ⟨j1, j2⟩ := join_map _ hok hs
  have j3 := joinF_spec _ hs fun p hq => by obtain ⟨r, hr, rfl⟩ := List.mem_map.1 hq; exact ok_le (hok r hr)
  unfold unionT
  rw [j1]
  refine ⟨j3.1, fun y => (j3.2.1 y).trans ?_, fun l hl => ?_⟩
  · exact cov_mem (fun p => by rw [hm]; exact (isort_perm _).mem_iff) y
  · obtain ⟨⟨p, h1, e1⟩, q, h2, e2⟩ := j2 l hl
    exact ⟨⟨p, hp.mem_iff.1 h1, e1⟩, q, hp.mem_iff.1 h2, e2⟩
def ends (xs : List Rw) : List ByteArray := xs.flatMap fun p => [p.1, p.2]
theorem ok_ends {S : List ByteArray} {xs : List Rw} (h : ∀ c ∈ ends xs, c ∈ S) : Ok S (xs.filter rowB) := fun p hp => by
  obtain ⟨h1, h2⟩ := List.mem_filter.1 hp
  exact ⟨h2, h _ (List.mem_flatMap.2 ⟨p, h1, by simp⟩), h _ (List.mem_flatMap.2 ⟨p, h1, by simp⟩)⟩
theorem union_in {S : List ByteArray} {xs : List Rw} (h : Ok S (xs.filter rowB)) : ∀ l ∈ unionT xs, In S l := fun l hl => by
  obtain ⟨⟨p, hp, e1⟩, r, hr, e2⟩ := (union_spec h).2.2 l hl
  exact ⟨e1 ▸ (h p hp).2.1, e2 ▸ (h r hr).2.2⟩
theorem rowB_iff {p : Rw} : rowB p = true ↔ (properB p.1 = true ∧ properB p.2 = true) ∧ leT p.1 p.2 = true := by
  unfold rowB; rw [Bool.and_eq_true, Bool.and_eq_true]
theorem union_ok {S : List ByteArray} {xs : List Rw} (h : Ok S (xs.filter rowB)) : Ok S (unionT xs) := fun l hl => by
  have hin := union_in h l hl
  obtain ⟨⟨p, hp, e1⟩, r, hr, e2⟩ := (union_spec h).2.2 l hl
  refine ⟨rowB_iff.2 ⟨⟨e1 ▸ (rowB_iff.1 (h p hp).1).1.1, e2 ▸ (rowB_iff.1 (h r hr).1).1.2⟩, ?_⟩, hin⟩
  exact (rk_le hin.1 hin.2).2 ((union_spec h).1.1 (f2 S l) (List.mem_map.2 ⟨l, hl, rfl⟩))
theorem mayRow_union (xs : List Rw) : mayRow (unionT xs) = true := by
  have h1 : Ok (ends xs) (xs.filter rowB) := ok_ends fun _ hc => hc
  refine mayRow_yes (k := (unionT xs).length) (fun i hi => ?_) (Nat.le_refl _)
  have hm := nth_memL hi
  unfold badRow
  rw [(union_ok h1 _ hm).1, Bool.not_true, Bool.false_or]
  by_cases h0 : i = 0
  · subst h0; rfl
  · have hi' : i - 1 < (unionT xs).length := by omega
    rw [show (i : Int) - 1 = ((i - 1 : Nat) : Int) by omega]
    have hp := List.pairwise_iff_getElem.1 (union_spec h1).1.2 (i - 1) i (by simpa using hi') (by simpa using hi) (by omega)
    rw [List.getElem_map, List.getElem_map, ← nth_of (List.getElem?_eq_getElem hi), ← nth_of (List.getElem?_eq_getElem hi')] at hp
    simp only [f2] at hp
    have a := union_in h1 _ hm
    have b := union_in h1 _ (nth_memL hi')
    have : leT (nth (unionT xs) (i : Int)).1 (nth (unionT xs) ((i - 1 : Nat) : Int)).2 = false := by
      rw [← Bool.not_eq_true, rk_le a.1 b.2]; omega
    rw [this, Bool.and_false]
theorem union_len (xs : List Rw) : (unionT xs).length ≤ xs.length := Nat.le_trans (joinT_le _) (sort_filter_le xs)
theorem named_len (n : Int) : (namedF n).length ≤ 4 := by unfold namedF; split <;> (try split) <;> (try split) <;> decide
theorem named_may (n : Int) : mayRow (namedF n) = true := by unfold namedF; split <;> (try split) <;> (try split) <;> decide +kernel
theorem low_range (x m : Int) (h : 0 < m) (h2 : m ≤ 9223372036854775807) : 0 ≤ lowF x m ∧ lowF x m < m := by
  have e : IntKind.u64.wrap m = m := by simp [IntKind.wrap, IntKind.signed, IntKind.bits]; omega
  have hx : 0 ≤ IntKind.u64.wrap x := by simp [IntKind.wrap, IntKind.signed, IntKind.bits]; omega
  unfold lowF
  rw [e, Int.tmod_eq_emod_of_nonneg hx]
  have h3 := Int.emod_nonneg (IntKind.u64.wrap x) (show m ≠ 0 by omega)
  have h4 := Int.emod_lt_of_pos (IntKind.u64.wrap x) h
  rw [IntWalk.i64_in _ (by omega)]
  omega
end B
end Go.Proofs.Ytocmchlhbniloaa
namespace Go.Proofs.Ytocmchlhbniloaa
namespace B
open Srt
def CsOk (cs : List ByteArray) : Prop := cs.length ≤ 256 ∧ ∀ c ∈ cs, c.size ≤ 256
def CsP (cs : List ByteArray) : Prop := ∀ i : Nat, 1 ≤ i → i < cs.length → properB (nth cs (i : Int)) = true
def Tiny (rows : List Rw) : Prop := ∀ r ∈ rows, r.1.size ≤ 256 ∧ r.2.size ≤ 256
theorem Tiny.small {rows : List Rw} (h : Tiny rows) : Small rows := fun r hr => ⟨Nat.le_trans (h r hr).1 (by decide), Nat.le_trans (h r hr).2 (by decide)⟩
theorem Tiny.app {xs ys : List Rw} (h : Tiny xs) (h2 : Tiny ys) : Tiny (xs ++ ys) := fun r hr => (List.mem_append.1 hr).elim (h r) (h2 r)
theorem Tiny.one {a b : ByteArray} (h : a.size ≤ 256) (h2 : b.size ≤ 256) : Tiny [(a, b)] := fun r hr => by
  simp at hr; subst hr
  exact ⟨h, h2⟩
theorem Tiny.nil : Tiny [] := fun r hr => by cases hr
theorem union_tiny {xs : List Rw} (h : Tiny xs) : Tiny (unionT xs) := fun l hl => by
  obtain ⟨⟨p, hp, e1⟩, r, hr, e2⟩ := (union_spec (S := ends xs) (ok_ends fun _ hc => hc)).2.2 l hl
  rw [e1, e2]
  exact ⟨(h p (List.mem_filter.1 hp).1).1, (h r (List.mem_filter.1 hr).1).2⟩
theorem named_tiny (n : Int) : Tiny (namedF n) := by unfold namedF; split <;> (try split) <;> (try split) <;> (unfold Tiny; decide)
theorem rw_tiny {rows : List Rw} (h : Tiny rows) : rwW rows ≤ 513 * (rows.length : Int) := by
  unfold rwW
  induction rows using snoc_ind with
  | h0 => simp [sumL]
  | h1 rows r ih =>
    rw [List.map_append, List.map_cons, List.map_nil, sumL_snoc, List.length_append]
    have := ih fun x hx => h x (by simp [hx])
    have := h r (by simp)
    simp; omega
theorem see_size_le {cs : List ByteArray} (h : CsOk cs) (i : Nat) : (seeF cs i).size ≤ 256 := by
  unfold seeF
  split
  · exact Nat.zero_le _
  · exact h.2 _ (nth_memI (by omega) (by omega))
theorem esc_size (c : ByteArray) (h : c.size ≤ 256) : (escF c).1.size ≤ 256 := by
  unfold escF
  repeat (split; exact (by decide))
  exact h
theorem item_small {cs : List ByteArray} (h : CsOk cs) (i : Nat) : Tiny (itemF cs i).1 ∧ (itemF cs i).2.1.size ≤ 256 ∧ (itemF cs i).1.length ≤ 4 ∧ (itemF cs i).2.2.2 ≤ i + 2 ∧ ((itemF cs i).2.2.1 = true → i < (itemF cs i).2.2.2 ∧ (itemF cs i).2.2.2 ≤ cs.length) := by
  refine ⟨?_, ?_, ?_, ?_, item_le⟩ <;> unfold itemF <;> (repeat' split)
  · exact Tiny.nil
  · exact Tiny.nil
  · exact named_tiny _
  · exact Tiny.nil
  · exact Nat.zero_le _
  · exact see_size_le h i
  · exact Nat.zero_le _
  · exact esc_size _ (see_size_le h _)
  · exact Nat.zero_le _
  · exact Nat.zero_le _
  · exact named_len _
  · exact Nat.zero_le _
  · simp
  · simp
  · simp
  · simp
theorem leaf_ok (k : Int) (c : ByteArray) (h : (k = 2 ∧ properB c = true) ∨ ((k = 3 ∨ k = 8 ∨ k = 9 ∨ k = 10 ∨ k = 11) ∧ c = ⟨#[]⟩)) : allF (leafT k c false 0 0 false) = true ∧ partsF (leafT k c false 0 0 false) = 1 ∧ deepF (leafT k c false 0 0 false) = 0 := by
  refine ⟨?_, ?_, ?_⟩
  · rw [allF_eq]
    have : fieldsF (leafT k c false 0 0 false) = true := by
      rcases h with ⟨rfl, h⟩ | ⟨h, rfl⟩
      · simp [fieldsF, leafT, bareF, eqT, h]
      · rcases h with rfl | rfl | rfl | rfl | rfl <;> simp [fieldsF, leafT, bareT, bareF, eqT]
    rw [this]; rfl
  · rw [partsF_eq]; rfl
  · rw [deepF_eq]
    have : grpB (leafT k c false 0 0 false) = false := by
      unfold grpB leafT
      rcases h with ⟨rfl, h⟩ | ⟨h, rfl⟩
      · rfl
      · rcases h with rfl | rfl | rfl | rfl | rfl <;> rfl
    rw [this]; rfl
theorem set_ok (ng : Bool) (rows : List Rw) (h : mayRow rows = true) : allF (setT ng Sv.nil rows) = true ∧ partsF (setT ng Sv.nil rows) = 1 ∧ deepF (setT ng Sv.nil rows) = 0 ∧ wtF (setT ng Sv.nil rows) = 1 + rwW rows := by
  refine ⟨?_, ?_, ?_, ?_⟩
  · rw [allF_eq]
    have : fieldsF (setT ng Sv.nil rows) = true := by simp [fieldsF, setT, bareF, eqT, h]
    rw [this]; rfl
  · rw [partsF_eq]; rfl
  · rw [deepF_eq]; rfl
  · rw [wtF_eq]
    have : ((⟨#[]⟩ : ByteArray).size : Int) = 0 := rfl
    simp [setT, sumL, this]
theorem node1 (k : Int) (mn mx : Int) (lz : Bool) (x : Tr) : partsF (nodeT k ⟨#[]⟩ false mn mx lz Sv.nil [x]) = 1 + partsF x ∧ deepF (nodeT k ⟨#[]⟩ false mn mx lz Sv.nil [x]) = max 0 (deepF x) + (if k = 5 ∨ k = 6 then 1 else 0) ∧ wtF (nodeT k ⟨#[]⟩ false mn mx lz Sv.nil [x]) = 1 + wtF x := by
  refine ⟨?_, ?_, ?_⟩
  · rw [partsF_eq]; simp [nodeT, sumL]
  · rw [deepF_eq]
    have : (grpB (nodeT k ⟨#[]⟩ false mn mx lz Sv.nil [x]) = true) ↔ (k = 5 ∨ k = 6) := by unfold grpB nodeT; simp
    simp only [this]
    simp [nodeT, maxL]
  · rw [wt_node]
    have : ((⟨#[]⟩ : ByteArray).size : Int) = 0 := rfl
    simp [sumL, this]
theorem grp_ok {k : Int} {x : Tr} (hk : k = 5 ∨ k = 6) (h : allF x = true) : allF (nodeT k ⟨#[]⟩ false 0 0 false Sv.nil [x]) = true := by
  rw [allF_eq]
  have : fieldsF (nodeT k ⟨#[]⟩ false 0 0 false Sv.nil [x]) = true := by
    rcases hk with rfl | rfl <;> simp [fieldsF, nodeT, bareT, bareF, eqT]
  rw [this]; simp [nodeT, h]
theorem rep_ok {x : Tr} {mn mx : Int} {lz : Bool} (h : allF x = true) (hk : x.k = 2 ∨ x.k = 3 ∨ x.k = 4 ∨ x.k = 5 ∨ x.k = 6) (h0 : 0 ≤ mn ∧ mn ≤ 255) (h1 : mx = -1 ∨ (mn ≤ mx ∧ mx ≤ 255)) : allF (repT x mn mx lz) = true := by
  rw [allF_eq]
  have hn : (nth [x] 0).k = x.k := rfl
  have : fieldsF (repT x mn mx lz) = true := by
    have hr : repB x.k = true := by unfold repB; rcases hk with h | h | h | h | h <;> simp [h]
    have h5 : (decide (mx = -1) || (decide (mn ≤ mx) && decide (mx ≤ 255))) = true := by
      rw [Bool.or_eq_true, Bool.and_eq_true, decide_eq_true_eq, decide_eq_true_eq, decide_eq_true_eq]; exact h1
    have h6 : fieldsF (repT x mn mx lz) = (((((bareF ⟨#[]⟩ false [] 0 0 false && decide (([x].length : Int) = 1)) && repB (nth [x] 0).k) && decide (0 ≤ mn)) && decide (mn ≤ 255)) && (decide (mx = -1) || (decide (mn ≤ mx) && decide (mx ≤ 255)))) := rfl
    rw [h6, h5, hn, hr, decide_eq_true h0.1, decide_eq_true h0.2]
    simp [bareF, eqT]
  rw [this]; simp [repT, nodeT, h]
theorem parts_mk (k : Int) (ks : List Tr) : partsF (mkT k ks) = 1 + sumL (ks.map partsF) := partsF_eq _
theorem deep_mk (k : Int) (ks : List Tr) (hk : k = 0 ∨ k = 1) : deepF (mkT k ks) = maxL (ks.map deepF) := by
  rw [deepF_eq]
  have : grpB (mkT k ks) = false := by unfold grpB mkT; rcases hk with rfl | rfl <;> rfl
  rw [this]; simp [mkT]
theorem seq_all {ks : List Tr} (h : ∀ x ∈ ks, allF x = true ∧ x.k ≠ 0 ∧ x.k ≠ 1) (hl : ks.length ≠ 1) : allF (mkT 0 ks) = true := by
  rw [allF_eq]
  have h1 : ks.all allF = true := List.all_eq_true.2 fun x hx => (h x hx).1
  have h2 : someK (mkT 0 ks) [0, 1] = false := by
    rw [someK_two, List.any_eq_false]
    intro x hx
    have := h x hx
    simp [this.2.1, this.2.2]
  have : fieldsF (mkT 0 ks) = true := by
    unfold fieldsF
    rw [show (mkT 0 ks).k = 0 from rfl, if_neg (by decide), if_neg (by decide), if_neg (by decide), if_pos rfl, h2]
    have : bareT (mkT 0 ks) = true := by unfold bareT bareF mkT; simp [eqT]
    have hl' : decide (((mkT 0 ks).kids.length : Int) = 1) = false := decide_eq_false (by show ¬ (ks.length : Int) = 1; omega)
    rw [this, hl']; rfl
  rw [this]; simp [mkT, h1]
theorem alt_all {ks : List Tr} (h : ∀ x ∈ ks, allF x = true ∧ x.k ≠ 1) (hl : 2 ≤ ks.length) : allF (mkT 1 ks) = true := by
  rw [allF_eq]
  have h1 : ks.all allF = true := List.all_eq_true.2 fun x hx => (h x hx).1
  have h2 : someK (mkT 1 ks) [1] = false := by
    rw [someK_one, List.any_eq_false]
    intro x hx
    have := h x hx
    simp [this.2]
  have : fieldsF (mkT 1 ks) = true := by
    unfold fieldsF
    rw [show (mkT 1 ks).k = 1 from rfl, if_neg (by decide), if_neg (by decide), if_neg (by decide), if_neg (by decide), if_pos rfl, h2]
    have : bareT (mkT 1 ks) = true := by unfold bareT bareF mkT; simp [eqT]
    rw [this]
    have hl' : decide ((1 : Int) < ((mkT 1 ks).kids.length : Int)) = true := decide_eq_true (by show (1 : Int) < (ks.length : Int); omega)
    rw [hl']; rfl
  rw [this]; simp [mkT, h1]
theorem flat_id {k : Int} {l : List Tr} (h : ∀ x ∈ l, x.k ≠ k) : flatF k l = l := by
  induction l with
  | nil => rfl
  | cons x l ih =>
    unfold flatF at ih ⊢
    rw [List.flatMap_cons, if_neg (h x (by simp)), ih fun y hy => h y (by simp [hy])]; rfl
structure TermOk (x : Tr) (n d : Int) : Prop where
  wt : wtF x ≤ 2200 * n
  parts : partsF x ≤ 2 * n
  deep : deepF x ≤ 16 - d
  all : allF x = true
  k : x.k ≠ 0 ∧ x.k ≠ 1
structure PatOk (x : Tr) (n d : Int) : Prop where
  wt : wtF x ≤ 2200 * n + 2
  parts : partsF x ≤ 2 * n + 1
  deep : deepF x ≤ 16 - d
  all : allF x = true
theorem maxL_all {l : List Tr} {n : Int} (h0 : 0 ≤ n) (h : ∀ x ∈ l, deepF x ≤ n) : maxL (l.map deepF) ≤ n := maxL_le h0 fun y hy => by
  obtain ⟨x, hx, rfl⟩ := List.mem_map.1 hy
  exact h x hx
theorem seqF_terms {ts : List Tr} {d : Int} (hd : d ≤ 16) (h : ∀ x ∈ ts, allF x = true ∧ x.k ≠ 0 ∧ x.k ≠ 1 ∧ deepF x ≤ 16 - d) : allF (seqF ts) = true ∧ (seqF ts).k ≠ 1 ∧ deepF (seqF ts) ≤ 16 - d ∧ partsF (seqF ts) ≤ 1 + sumL (ts.map partsF) := by
  have hid := flat_id (k := 0) (l := ts) fun x hx => (h x hx).2.1
  unfold seqF
  rw [hid]
  have many : ts.length ≠ 1 → allF (mkT 0 ts) = true ∧ (mkT 0 ts).k ≠ 1 ∧ deepF (mkT 0 ts) ≤ 16 - d ∧ partsF (mkT 0 ts) ≤ 1 + sumL (ts.map partsF) := fun hl =>
    ⟨seq_all (fun x hx => ⟨(h x hx).1, (h x hx).2.1, (h x hx).2.2.1⟩) hl, by show (0 : Int) ≠ 1; decide, by rw [deep_mk _ _ (.inl rfl)]; exact maxL_all (by omega) fun x hx => (h x hx).2.2.2, by rw [parts_mk]; omega⟩
  match ts, h, many with
  | [], h, many => exact many (by decide)
  | [x], h, _ => exact ⟨(h x (by simp)).1, (h x (by simp)).2.2.1, (h x (by simp)).2.2.2, by simp [sumL]; omega⟩
  | x :: y :: l, h, many => exact many (by simp)
theorem altF_alts {ts : List Tr} {d : Int} (hd : d ≤ 16) (hne : ts ≠ []) (h : ∀ x ∈ ts, allF x = true ∧ x.k ≠ 1 ∧ deepF x ≤ 16 - d) : allF (altF ts) = true ∧ deepF (altF ts) ≤ 16 - d ∧ (ts.length = 1 → partsF (altF ts) = sumL (ts.map partsF)) ∧ partsF (altF ts) ≤ 1 + sumL (ts.map partsF) := by
  have hid := flat_id (k := 1) (l := ts) fun x hx => (h x hx).2.1
  unfold altF
  rw [hid]
  match ts, hne, h with
  | [x], _, h => exact ⟨(h x (by simp)).1, (h x (by simp)).2.2, fun _ => by simp [sumL], by simp [sumL]; omega⟩
  | x :: y :: l, _, h =>
    refine ⟨alt_all (fun z hz => ⟨(h z hz).1, (h z hz).2.1⟩) (by simp), ?_, fun e => by simp at e, by show partsF (mkT 1 _) ≤ _; rw [parts_mk]; omega⟩
    show deepF (mkT 1 _) ≤ _
    rw [deep_mk _ _ (.inr rfl)]; exact maxL_all (by omega) fun z hz => (h z hz).2.2
theorem nth_see {cs : List ByteArray} {i : Nat} (h : i < cs.length) : seeF cs i = nth cs (i : Int) := by unfold seeF; rw [if_neg (by omega)]
theorem esc_proper {c : ByteArray} (h : (escF c).2 = true) (hp : properB c = true) : properB (escF c).1 = true := by
  unfold escF at h ⊢
  split at h
  · cases h
  · rename_i h1
    rw [if_neg h1]
    split at h
    · rename_i h2; rw [if_pos h2]; decide +kernel
    · rename_i h2
      rw [if_neg h2]
      split at h
      · rename_i h3; rw [if_pos h3]; decide +kernel
      · rename_i h3
        rw [if_neg h3]
        split at h
        · rename_i h4; rw [if_pos h4]; decide +kernel
        · rename_i h4
          rw [if_neg h4]
          split at h
          · rename_i h5; rw [if_pos h5]; decide +kernel
          · rename_i h5
            rw [if_neg h5]
            split at h
            · rename_i h6; rw [if_pos h6]; decide +kernel
            · rename_i h6
              rw [if_neg h6]
              split at h
              · cases h
              · rename_i h7
                rw [if_neg h7]; exact hp
theorem num_ok {r : Int × Nat × Nat} (h : numB r = true) : r.1 ≤ 255 := by
  unfold numB at h
  simp at h; omega
theorem lazy_ok {cs : List ByteArray} {x : Tr} {j : Nat} {mn mx : Int} (h : allF x = true) (hk : x.k = 2 ∨ x.k = 3 ∨ x.k = 4 ∨ x.k = 5 ∨ x.k = 6) (h0 : 0 ≤ mn ∧ mn ≤ 255) (h1 : mx = -1 ∨ (mn ≤ mx ∧ mx ≤ 255)) : allF (lazyF cs x j mn mx).1 = true ∧ (lazyF cs x j mn mx).1.k = 7 ∧ partsF (lazyF cs x j mn mx).1 = 1 + partsF x ∧ deepF (lazyF cs x j mn mx).1 = max 0 (deepF x) ∧ wtF (lazyF cs x j mn mx).1 = 1 + wtF x := by
  obtain ⟨a, b, c⟩ := node1 7 mn mx (tkF cs j ⟨#[63]⟩) x
  exact ⟨rep_ok h hk h0 h1, rfl, a, by have := b; rw [if_neg (by decide), Int.add_zero] at this; exact this, c⟩
theorem fin_law {cs : List ByteArray} {x : Tr} {mn mx : Int} {ok : Bool} {j : Nat} (he : (finF cs x mn mx ok j).2.1 = 0) (h : allF x = true) (hk : x.k = 2 ∨ x.k = 3 ∨ x.k = 4 ∨ x.k = 5 ∨ x.k = 6) (h0 : 0 ≤ mn ∧ mn ≤ 255) (h1 : ok = true → mx ≤ 255) (h2 : -1 ≤ mx) : allF (finF cs x mn mx ok j).1 = true ∧ (finF cs x mn mx ok j).1.k = 7 ∧ partsF (finF cs x mn mx ok j).1 = 1 + partsF x ∧ deepF (finF cs x mn mx ok j).1 = max 0 (deepF x) ∧ wtF (finF cs x mn mx ok j).1 = 1 + wtF x ∧ j < (finF cs x mn mx ok j).2.2 := by
  have hle := fin_le he
  unfold finF at he hle ⊢
  split at he
  · cases he
  · rename_i g1
    rw [if_neg g1]
    rw [if_neg g1] at hle
    split at he
    · cases he
    · rename_i g2
      rw [if_neg g2]
      rw [if_neg g2] at hle
      split at he
      · cases he
      · rename_i g3
        rw [if_neg g3]
        have hl := lazy_le cs x (j + 1) mn mx
        simp only [Bool.and_eq_true, Bool.not_eq_true', decide_eq_false_iff_not, decide_eq_true_eq, not_and, Int.not_lt] at g3
        obtain ⟨a, b, c, d, e⟩ := lazy_ok (cs := cs) (j := j + 1) h hk h0 (mx := mx) (by
          have := h1 (by simpa using g1)
          by_cases hm : mx = -1
          · exact .inl hm
          · exact .inr ⟨g3 hm, this⟩)
        exact ⟨a, b, c, d, e, by omega⟩
theorem times_law {cs : List ByteArray} {x : Tr} {i : Nat} {n d : Int} (hd : d ≤ 16) (he : (timesF cs x i).2.1 = 0) (h : TermOk x n d) (hn : 1 ≤ n) (hk : x.k = 2 ∨ x.k = 3 ∨ x.k = 4 ∨ x.k = 5 ∨ x.k = 6) : TermOk (timesF cs x i).1 (n + ((timesF cs x i).2.2 - i)) d := by
  have fin : ∀ {y : Tr} {p : Nat}, allF y = true ∧ y.k = 7 ∧ partsF y = 1 + partsF x ∧ deepF y = max 0 (deepF x) ∧ wtF y = 1 + wtF x → i < p → TermOk y (n + (p - i)) d := fun {y p} ⟨a, b, c, e, f⟩ hp => by
    have := h.wt; have := h.parts; have := h.deep
    exact ⟨by omega, by omega, by omega, a, by rw [b]; decide⟩
  unfold timesF at he ⊢
  split
  · have hl := lazy_le cs x (i + 1) 0 (-1); exact fin (lazy_ok h.all hk (by decide) (.inl rfl)) (by omega)
  · split
    · have hl := lazy_le cs x (i + 1) 1 (-1); exact fin (lazy_ok h.all hk (by decide) (.inl rfl)) (by omega)
    · split
      · have hl := lazy_le cs x (i + 1) 0 1; exact fin (lazy_ok h.all hk (by decide) (.inr (by decide))) (by omega)
      · split
        · rename_i g1 g2 g3 g4
          rw [if_neg g1, if_neg g2, if_neg g3, if_pos g4] at he
          have a2 := num_le cs (i + 1)
          have a3 := numF_rg cs (i + 1)
          split
          · rename_i g5; rw [if_pos g5] at he; cases he
          · rename_i g5
            rw [if_neg g5] at he
            have b1 := num_ok (by simpa using g5)
            split
            · rename_i g6
              rw [if_pos g6] at he
              have a4 := num_le cs ((numF cs (i + 1)).2.2 + 1)
              have a5 := numF_rg cs ((numF cs (i + 1)).2.2 + 1)
              split
              · rename_i g7
                rw [if_pos g7] at he
                obtain ⟨a, b, c, e, f, g⟩ := fin_law he h.all hk ⟨by omega, b1⟩ (fun hh => num_ok hh) (by omega)
                exact fin ⟨a, b, c, e, f⟩ (by omega)
              · rename_i g7
                rw [if_neg g7] at he
                obtain ⟨a, b, c, e, f, g⟩ := fin_law he h.all hk ⟨by omega, b1⟩ (fun _ => by omega) (by omega)
                exact fin ⟨a, b, c, e, f⟩ (by omega)
            · rename_i g6
              rw [if_neg g6] at he
              obtain ⟨a, b, c, e, f, g⟩ := fin_law he h.all hk ⟨by omega, b1⟩ (fun _ => by omega) (by omega)
              exact fin ⟨a, b, c, e, f⟩ (by omega)
        · have e1 : n + ((i : Nat) - (i : Int)) = n := by omega
          rw [e1]; exact h
theorem clsL_law {cs : List ByteArray} (h : CsOk cs) {ng : Bool} : ∀ (f i : Nat) (rows : List Rw), Tiny rows → (clsL cs ng f i rows).2.1 = 0 → ∃ rs, (clsL cs ng f i rows).1 = setT ng Sv.nil (unionT rs) ∧ Tiny rs ∧ (rs.length : Int) + 4 * i ≤ (rows.length : Int) + 4 * (clsL cs ng f i rows).2.2
  | 0, i, rows, _, he => by cases he
  | f + 1, i, rows, ht, he => by
    rw [clsL] at he ⊢
    split
    · exact ⟨rows, rfl, ht, by simp; omega⟩
    · rename_i g1
      rw [if_neg g1] at he
      split
      · rename_i g2; rw [if_pos g2] at he; cases he
      · rename_i g2
        rw [if_neg g2] at he
        have a1 := item_small h i
        have a2 := a1.2.2.2.2 (by simpa using g2)
        split
        · rename_i g3
          rw [if_pos g3] at he
          obtain ⟨rs, b1, b2, b3⟩ := clsL_law h f _ _ (ht.app a1.1) he
          refine ⟨rs, b1, b2, ?_⟩
          rw [List.length_append] at b3
          have := a1.2.2.1
          omega
        · rename_i g3
          rw [if_neg g3] at he
          split
          · rename_i g4
            rw [if_pos g4] at he
            split
            · rename_i g5; rw [if_pos g5] at he; cases he
            · rename_i g5
              rw [if_neg g5] at he
              have a3 := item_small h ((itemF cs i).2.2.2 + 1)
              have g6 : (itemF cs ((itemF cs i).2.2.2 + 1)).2.2.1 = true := by
                rw [Bool.not_eq_true, Bool.or_eq_false_iff, Bool.or_eq_false_iff, Bool.not_eq_false'] at g5
                exact g5.1.1
              have a4 := a3.2.2.2.2 g6
              obtain ⟨rs, b1, b2, b3⟩ := clsL_law h f _ _ (ht.app (Tiny.one a1.2.1 a3.2.1)) he
              refine ⟨rs, b1, b2, ?_⟩
              rw [List.length_append] at b3
              simp at b3
              omega
          · rename_i g4
            rw [if_neg g4] at he
            obtain ⟨rs, b1, b2, b3⟩ := clsL_law h f _ _ (ht.app (Tiny.one a1.2.1 a1.2.1)) he
            refine ⟨rs, b1, b2, ?_⟩
            rw [List.length_append] at b3
            simp at b3
            omega
def AtomOk (x : Tr) (n d : Int) : Prop := TermOk x n d ∧ (x.k = 2 ∨ x.k = 3 ∨ x.k = 4 ∨ x.k = 5 ∨ x.k = 6)
theorem leaf_term {k : Int} {c : ByteArray} {n d : Int} (hn : 1 ≤ n) (hd : d ≤ 16) (h : (k = 2 ∧ properB c = true ∧ c.size ≤ 256) ∨ ((k = 3 ∨ k = 8 ∨ k = 9 ∨ k = 10 ∨ k = 11) ∧ c = ⟨#[]⟩)) : TermOk (leafT k c false 0 0 false) n d := by
  obtain ⟨a, b, e⟩ := leaf_ok k c (h.imp (fun h => ⟨h.1, h.2.1⟩) id)
  refine ⟨?_, by omega, by omega, a, ?_⟩
  · rw [wt_leaf]
    rcases h with ⟨_, _, h⟩ | ⟨_, rfl⟩
    · omega
    · have : ((⟨#[]⟩ : ByteArray).size : Int) = 0 := rfl
      omega
  · unfold leafT
    simp only []
    omega
theorem cls_law {cs : List ByteArray} (h : CsOk cs) {i : Nat} {n d : Int} (hd : d ≤ 16) (he : (clsF cs i).2.1 = 0) (hn : (clsF cs i).2.2 - (i : Int) ≤ n) : AtomOk (clsF cs i).1 n d := by
  have a1 := cls_le he
  have a2 := tkN_le2 cs i (⟨#[94]⟩ : ByteArray)
  unfold clsF at he hn a1 ⊢
  obtain ⟨rs, b1, b2, b3⟩ := clsL_law h _ _ _ Tiny.nil he
  rw [b1]
  obtain ⟨c1, c2, c3, c4⟩ := set_ok (tkF cs i ⟨#[94]⟩) (unionT rs) (mayRow_union rs)
  have c5 := rw_tiny (union_tiny b2)
  have c6 := union_len rs
  simp at b3
  exact ⟨⟨by omega, by omega, by omega, c1, by show (4 : Int) ≠ 0 ∧ (4 : Int) ≠ 1; decide⟩, .inr (.inr (.inl rfl))⟩
theorem back_law {cs : List ByteArray} (h : CsOk cs) (hp : CsP cs) {i : Nat} {n d : Int} (hi : 1 ≤ i) (hd : d ≤ 16) (he : (backF cs i).2.1 = 0) (hn : 1 ≤ n) : AtomOk (backF cs i).1 n d := by
  have a1 := back_le he
  unfold backF at he ⊢
  split
  · rename_i g1
    obtain ⟨c1, c2, c3, c4⟩ := set_ok (!(eqT (seeF cs i) (foldT (seeF cs i)))) (namedF (byteAt (foldT (seeF cs i)) 0)) (named_may _)
    have c5 := rw_tiny (named_tiny (byteAt (foldT (seeF cs i)) 0))
    have c6 := named_len (byteAt (foldT (seeF cs i)) 0)
    exact (show AtomOk (setT (!(eqT (seeF cs i) (foldT (seeF cs i)))) Sv.nil (namedF (byteAt (foldT (seeF cs i)) 0))) n d from ⟨⟨by omega, by omega, by omega, c1, by show (4 : Int) ≠ 0 ∧ (4 : Int) ≠ 1; decide⟩, .inr (.inr (.inl rfl))⟩)
  · rename_i g1
    rw [if_neg g1] at he
    split
    · rename_i g2; rw [if_pos g2] at he; cases he
    · rename_i g2
      have hne := see_ne (esc_ne (by simpa using g2))
      have hpr : properB (seeF cs i) = true := by rw [nth_see hne]; exact hp i hi hne
      exact ⟨leaf_term hn hd (.inl ⟨rfl, esc_proper (by simpa using g2) hpr, esc_size _ (see_size_le h i)⟩), .inl rfl⟩
def SubOk (cs : List ByteArray) (sub : Int → Nat → Tr × Int × Nat) : Prop := ∀ (d2 : Int) (j : Nat), d2 ≤ 16 → (sub d2 j).2.1 = 0 → PatOk (sub d2 j).1 ((sub d2 j).2.2 - (j : Int)) d2
theorem atom_law {sub : Int → Nat → Tr × Int × Nat} {cs : List ByteArray} {d : Int} {i : Nat} (h : CsOk cs) (hp : CsP cs) (hs : SubLe cs sub) (ho : SubOk cs sub) (hd : d ≤ 16) (he : (atomF sub cs d i).2.1 = 0) : AtomOk (atomF sub cs d i).1 ((atomF sub cs d i).2.2 - (i : Int)) d := by
  have grp : ∀ {k : Int} {x : Tr} {m n : Int}, (k = 5 ∨ k = 6) → PatOk x m (d + 1) → 0 ≤ m → m + 2 ≤ n → AtomOk (nodeT k ⟨#[]⟩ false 0 0 false Sv.nil [x]) n d := fun {k x m n} hk hx h0 hmn => by
    obtain ⟨a, b, c⟩ := node1 k 0 0 false x
    have h1 := hx.wt; have h2 := hx.parts; have h3 := hx.deep
    have h4 := (deepF_bound x).1
    rw [if_pos hk] at b
    refine ⟨⟨by omega, by omega, by omega, grp_ok hk hx.all, ?_⟩, ?_⟩
    · show k ≠ 0 ∧ k ≠ 1; omega
    · show k = 2 ∨ k = 3 ∨ k = 4 ∨ k = 5 ∨ k = 6; omega
  have hle := atom_le hs he
  unfold atomF at he hle ⊢
  split
  · exact ⟨leaf_term (by simp; omega) hd (.inr ⟨.inl rfl, rfl⟩), .inr (.inl rfl)⟩
  · rename_i g1
    rw [if_neg g1] at he hle
    split
    · rename_i g2
      rw [if_pos g2] at he hle
      split
      · rename_i g3; rw [if_pos g3] at he; cases he
      · rename_i g3
        rw [if_neg g3] at he hle
        split
        · rename_i g4
          rw [if_pos g4] at he hle
          split
          · rename_i g5; rw [if_pos g5] at he; cases he
          · rename_i g5
            rw [if_neg g5] at he hle
            split
            · rename_i g6; rw [if_pos g6] at he; exact absurd he g6
            · rename_i g6
              rw [if_neg g6] at he hle
              split
              · rename_i g7; rw [if_pos g7] at he; cases he
              · rename_i g7
                rw [if_neg g7] at hle
                have e6 : (sub (d + 1) (i + 3)).2.1 = 0 := Classical.byContradiction g6
                have a4 := hs (d + 1) (i + 3) e6
                exact grp (.inr rfl) (ho (d + 1) (i + 3) (by omega) e6) (by omega) (by simp; omega)
        · rename_i g4
          rw [if_neg g4] at he hle
          split
          · rename_i g6; rw [if_pos g6] at he; exact absurd he g6
          · rename_i g6
            rw [if_neg g6] at he hle
            split
            · rename_i g7; rw [if_pos g7] at he; cases he
            · rename_i g7
              rw [if_neg g7] at hle
              have e6 : (sub (d + 1) (i + 1)).2.1 = 0 := Classical.byContradiction g6
              have a4 := hs (d + 1) (i + 1) e6
              exact grp (.inl rfl) (ho (d + 1) (i + 1) (by omega) e6) (by omega) (by simp; omega)
    · rename_i g2
      rw [if_neg g2] at he hle
      split
      · rename_i g3
        rw [if_pos g3] at he hle
        have := cls_le he
        exact cls_law h hd he (by omega)
      · rename_i g3
        rw [if_neg g3] at he hle
        split
        · rename_i g4
          rw [if_pos g4] at he hle
          have := back_le he
          exact back_law h hp (by omega) hd he (by omega)
        · rename_i g4
          rw [if_neg g4] at he hle
          split
          · rename_i g5; rw [if_pos g5] at he; cases he
          · rename_i g5
            have hpr : properB (seeF cs i) = true := by
              unfold badC at g5
              simp only [Bool.or_eq_true, not_or, Bool.not_eq_true, Bool.not_eq_false'] at g5
              exact g5.2
            exact ⟨leaf_term (by simp; omega) hd (.inl ⟨rfl, hpr, see_size_le h i⟩), .inl rfl⟩
theorem term_law {sub : Int → Nat → Tr × Int × Nat} {cs : List ByteArray} {d : Int} {i : Nat} (h : CsOk cs) (hp : CsP cs) (hs : SubLe cs sub) (ho : SubOk cs sub) (hd : d ≤ 16) (he : (termF sub cs d i).2.1 = 0) : TermOk (termF sub cs d i).1 ((termF sub cs d i).2.2 - (i : Int)) d := by
  unfold termF at he ⊢
  split
  · exact leaf_term (by simp; omega) hd (.inr ⟨by decide, rfl⟩)
  · rename_i g1
    rw [if_neg g1] at he
    split
    · exact leaf_term (by simp; omega) hd (.inr ⟨by decide, rfl⟩)
    · rename_i g2
      rw [if_neg g2] at he
      split
      · exact leaf_term (by simp; omega) hd (.inr ⟨by decide, rfl⟩)
      · rename_i g3
        rw [if_neg g3] at he
        split
        · exact leaf_term (by simp; omega) hd (.inr ⟨by decide, rfl⟩)
        · rename_i g4
          rw [if_neg g4] at he
          split
          · rename_i g5; rw [if_pos g5] at he; exact absurd he g5
          · rename_i g5
            rw [if_neg g5] at he
            have e5 : (atomF sub cs d i).2.1 = 0 := Classical.byContradiction g5
            have a1 := atom_le hs e5
            have a2 := atom_law h hp hs ho hd e5
            have a3 := times_law hd he a2.1 (by omega) a2.2
            have e : ((atomF sub cs d i).2.2 - (i : Int)) + ((timesF cs (atomF sub cs d i).1 (atomF sub cs d i).2.2).2.2 - ((atomF sub cs d i).2.2 : Int)) = (timesF cs (atomF sub cs d i).1 (atomF sub cs d i).2.2).2.2 - (i : Int) := by omega
            rw [e] at a3
            exact a3
structure SoFar (alts terms : List Tr) (i0 i : Nat) (d : Int) : Prop where
  at' : ∀ x ∈ alts, allF x = true ∧ x.k ≠ 1 ∧ deepF x ≤ 16 - d
  tt : ∀ x ∈ terms, allF x = true ∧ x.k ≠ 0 ∧ x.k ≠ 1 ∧ deepF x ≤ 16 - d
  le : i0 ≤ i
  parts : sumL (alts.map partsF) + sumL (terms.map partsF) + (if alts = [] then 0 else 1) ≤ 2 * ((i : Int) - i0)
  wt : sumL (alts.map wtF) + sumL (terms.map wtF) ≤ 2200 * ((i : Int) - i0)
theorem SoFar.start (i : Nat) (d : Int) : SoFar [] [] i i d := ⟨fun x hx => (by cases hx), fun x hx => (by cases hx), Nat.le_refl _, (by simp [sumL]), (by simp [sumL])⟩
theorem SoFar.term {alts terms : List Tr} {i0 i j : Nat} {d : Int} {x : Tr} (h : SoFar alts terms i0 i d) (hx : TermOk x ((j : Int) - i) d) (hj : i ≤ j) : SoFar alts (terms ++ [x]) i0 j d := by
  refine ⟨h.at', fun y hy => ?_, by have := h.le; omega, ?_, ?_⟩
  · rcases List.mem_append.1 hy with hy | hy
    · exact h.tt y hy
    · simp at hy; subst hy; exact ⟨hx.all, hx.k.1, hx.k.2, hx.deep⟩
  · have := h.parts; have := hx.parts
    rw [List.map_append, List.map_cons, List.map_nil, sumL_snoc]; omega
  · have := h.wt; have := hx.wt
    rw [List.map_append, List.map_cons, List.map_nil, sumL_snoc]; omega
theorem SoFar.alt {alts terms : List Tr} {i0 i : Nat} {d : Int} (h : SoFar alts terms i0 i d) (hd : d ≤ 16) : SoFar (alts ++ [seqF terms]) [] i0 (i + 1) d := by
  obtain ⟨a, b, c, e⟩ := seqF_terms hd h.tt
  have hw := wt_seq terms
  refine ⟨fun y hy => ?_, fun x hx => (by cases hx), (by have := h.le; omega), ?_, ?_⟩
  · rcases List.mem_append.1 hy with hy | hy
    · exact h.at' y hy
    · simp at hy; subst hy; exact ⟨a, b, c⟩
  · have := h.parts
    rw [List.map_append, List.map_cons, List.map_nil, sumL_snoc, if_neg (by simp)]
    rw [sumL_nil]
    split at this <;> omega
  · have := h.wt
    rw [List.map_append, List.map_cons, List.map_nil, sumL_snoc]
    rw [sumL_nil]; omega
theorem SoFar.fin {alts terms : List Tr} {i0 i : Nat} {d : Int} (h : SoFar alts terms i0 i d) (hd : d ≤ 16) : PatOk (altF (alts ++ [seqF terms])) ((i : Int) - i0) d := by
  obtain ⟨a, b, c, e⟩ := seqF_terms hd h.tt
  have hw := wt_seq terms
  have hw2 := wt_alt (alts ++ [seqF terms])
  have hall : ∀ x ∈ alts ++ [seqF terms], allF x = true ∧ x.k ≠ 1 ∧ deepF x ≤ 16 - d := fun y hy => by
    rcases List.mem_append.1 hy with hy | hy
    · exact h.at' y hy
    · simp at hy; subst hy; exact ⟨a, b, c⟩
  obtain ⟨f1, f2, f3, f4⟩ := altF_alts hd (by simp) hall
  have hp := h.parts; have hwt := h.wt
  rw [List.map_append, List.map_cons, List.map_nil, sumL_snoc] at f4 hw2
  refine ⟨by omega, ?_, f2, f1⟩
  by_cases hn : alts = []
  · subst hn
    have := f3 (by simp)
    rw [List.nil_append] at this ⊢
    rw [List.map_cons, List.map_nil, sumL_cons, sumL_nil] at this
    rw [List.map_nil, sumL_nil, if_pos rfl] at hp
    omega
  · rw [if_neg hn] at hp
    omega
theorem pat_law {cs : List ByteArray} (h : CsOk cs) (hp : CsP cs) : ∀ (f : Nat) (d : Int) (i0 i : Nat) (alts terms : List Tr), d ≤ 16 → SoFar alts terms i0 i d → (patF cs f d i alts terms).2.1 = 0 → PatOk (patF cs f d i alts terms).1 ((patF cs f d i alts terms).2.2 - (i0 : Int)) d
  | 0, d, i0, i, alts, terms, _, _, he => by cases he
  | f + 1, d, i0, i, alts, terms, hd, hso, he => by
    have hs : SubLe cs fun d j => patF cs f d j [] [] := fun d j hh => pat_le cs f d j [] [] hh
    have ho : SubOk cs fun d j => patF cs f d j [] [] := fun d j hd hh => pat_law h hp f d j j [] [] hd (SoFar.start j d) hh
    rw [patF] at he ⊢
    split
    · rename_i g1
      rw [if_pos g1] at he
      split
      · rename_i g2; rw [if_pos g2] at he; exact absurd he g2
      · rename_i g2
        rw [if_neg g2] at he
        have e2 : (termF (fun d j => patF cs f d j [] []) cs d i).2.1 = 0 := Classical.byContradiction g2
        have a1 := term_le hs e2
        have a2 := term_law h hp hs ho hd e2
        exact pat_law h hp f d i0 _ _ _ hd (hso.term a2 (by omega)) he
    · rename_i g1
      rw [if_neg g1] at he
      split
      · rename_i g2
        rw [if_pos g2] at he
        exact pat_law h hp f d i0 _ _ _ hd (hso.alt hd) he
      · exact hso.fin hd
end B
end Go.Proofs.Ytocmchlhbniloaa
