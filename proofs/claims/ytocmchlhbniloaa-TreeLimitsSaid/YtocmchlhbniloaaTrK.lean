/-
  Walks, printed by a program (gen.py): TrK.
-/
import Derived.Test.YtocmchlhbniloaaTrJ
set_option linter.unusedSimpArgs false
set_option linter.unusedVariables false
namespace Go.Proofs.Ytocmchlhbniloaa
namespace B
open Go.RowKit
open Srt
set_option maxRecDepth 100000 in
theorem kids_c (F : Foot) (kind : Int) (v : Value) (xs : List Tr) (w : World) (hS : SlT TrE w v xs) (hF : ∀ t ∈ xs, TrT F w t) (hP : sumL (xs.map wtF) ≤ 1000000) : Calls Try.prog 32 #[(.int .i64 (kind)), v] w (fun e w' => ∃ v' ts, e = .returned v' ∧ Ext none' w w' ∧ NewT TrE 25 w w' v' ts ∧ (∀ t ∈ ts, TrT (fun g => (Gn F w) g ∧ v'.ownBlock ≠ some g) w' t) ∧ ts.map er = flatF kind (xs.map er)) := by
 refine enter (n := 35) Try.func32 rfl rfl (Nat.le_of_ble_eq_true rfl) ?_
 intro a0 τ0 ha st0
 have e0 : get a0 0 = (.int .i64 (kind)) := ha 0 _ rfl
 have e1 : get a0 1 = v := ha 1 _ rfl
 clear ha
 have hle := hS.le
 have r9 : Fz (zTl (Gn F w) xs) τ0 w := TrT.inzs hF st0
 refine wp_seq ?_
 refine region_St (bf := [0]) (sp := [det _ 4 _]) [Ini.any _, Ini.any _, Ini.any _, Ini.any _, Ini.any _, Ini.any _, Ini.any _, Ini.any _, Ini.any _, iz r9] mixed st0 (by kernel_rfl) ⟨trivial, trivial, trivial, trivial, trivial, trivial, trivial, trivial, trivial, r9, trivial⟩
  ⟨Ob.d fun c => r_assign rfl rfl, trivial⟩ ?_
 intro a1 w1 τ1 st1 f1
 obtain ⟨e0, e1, -⟩ := f1.ks [(0, _), (1, _)] ⟨e0, e1, trivial⟩
 have e4 : get a1 4 = (.slice none 0 0) := f1.v 0 rfl
 replace r9 := f1.iz 9 rfl
 clear f1
 show Code.wp _ _ _ a1 w1
 refine wp_seq ?_
 refine region_St (bf := [0]) (sp := [det _ 5 _]) [Ini.any _, Ini.any _, Ini.any _, Ini.any _, Ini.any _, Ini.any _, Ini.any _, Ini.any _, Ini.any _, iz r9] mixed st1 (by kernel_rfl) ⟨trivial, trivial, trivial, trivial, trivial, trivial, trivial, trivial, trivial, r9, trivial⟩
  ⟨Ob.d fun c => r_assign rfl rfl, trivial⟩ ?_
 intro a2 w2 τ2 st2 f2
 obtain ⟨e0, e1, e4, -⟩ := f2.ks [(0, _), (1, _), (4, _)] ⟨e0, e1, e4, trivial⟩
 have e5 : get a2 5 = (.slice none 0 0) := f2.v 0 rfl
 replace r9 := f2.iz 9 rfl
 clear f2
 show Code.wp _ _ _ a2 w2
 refine wp_seq ?_
 refine wp_seq ?_
 refine region_St (bf := [0]) (sp := [det _ 6 _]) [Ini.any _, Ini.any _, Ini.any _, Ini.any _, Ini.any _, Ini.any _, Ini.any _, Ini.any _, Ini.any _, iz r9] mixed st2 (by kernel_rfl) ⟨trivial, trivial, trivial, trivial, trivial, trivial, trivial, trivial, trivial, r9, trivial⟩
  ⟨Ob.d fun c => r_assign rfl rfl, trivial⟩ ?_
 intro a3 w3 τ3 st3 f3
 obtain ⟨e0, e1, e4, e5, -⟩ := f3.ks [(0, _), (1, _), (4, _), (5, _)] ⟨e0, e1, e4, e5, trivial⟩
 have e6 : get a3 6 = (.int .i64 (0)) := f3.v 0 rfl
 replace r9 := f3.iz 9 rfl
 clear f3
 show Code.wp _ _ _ a3 w3
 refine wp_block ?_
 refine wp_loop (fun a_ w_ => ∃ (k : Nat) (u : Value) (ts : List Tr) (τ : Nat → Foot), (k ≤ xs.length) ∧
      (ts.map er = flatF kind ((xs.take k).map er)) ∧
      St (Nw w) w 35 a_ w_ τ ∧
      get a_ 5 = u ∧
      get a_ 6 = (.int .i64 ((k : Int))) ∧
      get a_ 0 = (.int .i64 (kind)) ∧
      get a_ 1 = v ∧
      get a_ 4 = (.slice none 0 0) ∧
      ownR TrE 25 (ts) (τ 5) u w_ ∧
      Fz (zTl (Gn F w) ts) τ w_ ∧
      Fz (zTl (Gn F w) xs) τ w_) (fun a_ _ => xs.length - (intOf (get a_ 6)).toNat) ?_ ?_
 · refine ⟨0, (.slice none 0 0), [], τ3, ?_, ?_, st3, e5, (e6.trans (int_eq (by omega))), e0, e1, e4, ?_, ?_, r9⟩
   · omega
   · simp [flatF]
   · exact ownR.nil _ _ _ _
   · exact Fz.tn _ _ _
 intro a4 w4 hI
 obtain ⟨k, u, ts, τ4, q0, q1, st4, e5, e6, e0, e1, e4, r5, r6, r9⟩ := hI
 have hw := wt_at (xs := xs) (k := k)
 have hrm := flat_roomw q1
 have hew := (wtF_bound (nth xs (k : Int))).1
 have m6 := e6
 refine wp_seq ?_
 refine wp_seq ?_
 refine region_St (bf := [0, 0, 2, 7]) (sp := [det _ 7 _, det _ 8 _, det _ 9 _, det _ 10 _]) [Ini.any _, Ini.any _, Ini.any _, Ini.any _, Ini.any _, io r5, iz r6, Ini.any _, Ini.any _, iz r9] mixed st4 (by kernel_rfl) ⟨trivial, trivial, trivial, trivial, trivial, r5, r6, trivial, trivial, r9, trivial⟩
  ⟨Ob.d fun c => r_move rfl (c.p e6),
  Ob.d fun c => r_move rfl (c.p e1),
  Ob.d fun c => r_len rfl Try.underlying23 (c.n 1 rfl) ((⟨hS, fun t_ h_ => (hF t_ h_).s⟩ : TlS w v xs).at st4.ext).sl.sl,
  Ob.d fun c => r_lss rfl (c.n 0 rfl) (c.n 2 rfl), trivial⟩ ?_
 intro a5 w5 τ5 st5 f5
 obtain ⟨e0, e1, e4, e5, e6, -⟩ := f5.ks [(0, _), (1, _), (4, _), (5, _), (6, _)] ⟨e0, e1, e4, e5, e6, trivial⟩
 have e10 : get a5 10 = (.bool (decide ((k : Int) < (xs.length : Int)))) := f5.v 3 rfl
 replace r5 := f5.io 5 rfl
 replace r6 := f5.iz 6 rfl
 replace r9 := f5.iz 9 rfl
 clear f5
 show Code.wp _ _ _ a5 w5
 refine wp_cond_split (t := decide ((k : Int) < (xs.length : Int))) e10 (fun hc1 => ?_) (fun hc1 => ?_)
 · try simp only [decide_eq_true_eq] at hc1
   refine wp_skip ?_
   show Code.wp _ _ _ a5 w5
   refine wp_seq ?_
   refine wp_block ?_
   refine wp_seq ?_
   refine region_St (bf := [0, 0, 3, 7, 15, 0, 63]) (sp := [det _ 13 _, det _ 14 _, det _ 15 _, det _ 16 _, det _ 17 _, det _ 18 _, det _ 19 _]) [Ini.any _, Ini.any _, Ini.any _, Ini.any _, Ini.any _, io r5, iz r6, Ini.any _, Ini.any _, iz r9] mixed st5 (by kernel_rfl) ⟨trivial, trivial, trivial, trivial, trivial, r5, r6, trivial, trivial, r9, trivial⟩
    ⟨Ob.d fun c => r_move rfl (c.p e1),
    Ob.d fun c => r_move rfl (c.p e6),
    Ob.d fun c => r_indexAddr rfl Try.underlying23 Try.sizeOf25 (c.n 0 rfl) ((⟨hS, fun t_ h_ => (hF t_ h_).s⟩ : TlS w v xs).at st5.ext).sl.sl (c.n 1 rfl) (by omega) (by omega),
    Ob.d fun c => r_fieldAddr rfl Try.underlying25 rfl rfl Try.sizeOf3 (c.n 2 rfl),
    Ob.d fun c => r_load1 rfl Try.isAgg3 (c.n 3 rfl) ((((⟨hS, fun t_ h_ => (hF t_ h_).s⟩ : TlS w v xs).at (st5.ext.trans c.J.ext)).sl).elem (j := 0) (nth_some (i := (k : Int)) (by omega) (by omega)) rfl),
    Ob.d fun c => r_move rfl (c.p e0),
    Ob.d fun c => r_eql rfl (c.n 4 rfl) (c.n 5 rfl), trivial⟩ ?_
   intro a6 w6 τ6 st6 f6
   obtain ⟨e0, e1, e4, e5, e6, e10, -⟩ := f6.ks [(0, _), (1, _), (4, _), (5, _), (6, _), (10, _)] ⟨e0, e1, e4, e5, e6, e10, trivial⟩
   have e19 : get a6 19 = (.bool (decide ((nth xs ((k : Int))).k = kind))) := f6.v 6 rfl
   replace r5 := f6.io 5 rfl
   replace r6 := f6.iz 6 rfl
   replace r9 := f6.iz 9 rfl
   clear f6
   show Code.wp _ _ _ a6 w6
   refine wp_cond_split (t := decide ((nth xs ((k : Int))).k = kind)) e19 (fun hc2 => ?_) (fun hc2 => ?_)
   · try simp only [decide_eq_true_eq] at hc2
     refine region_St (bf := [0, 0, 0, 6, 14, 30, 63, 127]) (sp := [det _ 20 _, det _ 21 _, det _ 22 _, det _ 23 _, det _ 24 _, det _ 25 _, own _ _ _ 5 26 _, own _ _ _ 5 5 _]) [Ini.any _, Ini.any _, Ini.any _, Ini.any _, Ini.any _, io r5, iz r6, Ini.any _, Ini.any _, iz r9] mixed st6 (by kernel_rfl) ⟨trivial, trivial, trivial, trivial, trivial, r5, r6, trivial, trivial, r9, trivial⟩
      ⟨Ob.d fun c => r_move rfl (c.p e5),
      Ob.d fun c => r_move rfl (c.p e1),
      Ob.d fun c => r_move rfl (c.p e6),
      Ob.d fun c => r_indexAddr rfl Try.underlying23 Try.sizeOf25 (c.n 1 rfl) ((⟨hS, fun t_ h_ => (hF t_ h_).s⟩ : TlS w v xs).at st6.ext).sl.sl (c.n 2 rfl) (by omega) (by omega),
      Ob.d fun c => r_fieldAddr rfl Try.underlying25 rfl rfl Try.sizeOf23 (c.n 3 rfl),
      Ob.d fun c => r_load1 rfl Try.isAgg23 (c.n 4 rfl) ((((⟨hS, fun t_ h_ => (hF t_ h_).s⟩ : TlS w v xs).at (st6.ext.trans c.J.ext)).sl).elem (j := 7) (nth_some (i := (k : Int)) (by omega) (by omega)) rfl),
      Ob.append (t0 := 5) rfl rfl rfl rfl Try.underlying23 (i := Try.t25) rfl rfl rfl rfl (by simp only [maxLen]; (try simp); omega) (by show _ * 104 ≤ _; (try simp); omega) (fun _ _ _ _ c => ⟨c.ip 5 rfl e5, c.sm (c.n 0 rfl) e5, ⟨_, (c.n 5 rfl), (((⟨hS, fun t_ h_ => (hF t_ h_).s⟩ : TlS w v xs).at (st6.ext.trans c.J.ext)).el (by omega) (by omega)).tl.sl⟩⟩),
      Ob.moveT (t0 := 26) rfl rfl rfl rfl rfl (.inr rfl) (fun _ _ _ _ c => ⟨c.ro 6 rfl, rfl⟩), trivial⟩ ?_
     intro a7 w7 τ7 st7 f7
     obtain ⟨b7x5, e5⟩ : ∃ b, get a7 5 = b := ⟨_, rfl⟩
     obtain ⟨e0, e1, e4, e6, e10, e19, -⟩ := f7.ks [(0, _), (1, _), (4, _), (6, _), (10, _), (19, _)] ⟨e0, e1, e4, e6, e10, e19, trivial⟩
     replace r5 : ownR TrE 25 (ts ++ ((nth xs ((k : Int))).kids)) (τ7 5) b7x5 w7 := f7.ro 7 e5 rfl
     replace r6 := f7.iz 6 rfl
     replace r9 := f7.iz 9 rfl
     clear f7
     show _
     show Code.wp _ _ _ a7 w7
     refine region_St (bf := [0, 1, 3]) (sp := [det _ 11 _, det _ 12 _, det _ 6 _]) [Ini.any _, Ini.any _, Ini.any _, Ini.any _, Ini.any _, io r5, iz r6, Ini.any _, Ini.any _, iz r9] mixed st7 (by kernel_rfl) ⟨trivial, trivial, trivial, trivial, trivial, r5, r6, trivial, trivial, r9, trivial⟩
      ⟨Ob.d fun c => r_move rfl (c.p e6),
      Ob.d fun c => r_add rfl (c.n 0 rfl) rfl (by omega),
      Ob.d fun c => r_assign rfl (c.n 1 rfl), trivial⟩ ?_
     intro a8 w8 τ8 st8 f8
     obtain ⟨e0, e1, e4, e5, e10, e19, -⟩ := f8.ks [(0, _), (1, _), (4, _), (5, _), (10, _), (19, _)] ⟨e0, e1, e4, e5, e10, e19, trivial⟩
     have e6 : get a8 6 = (.int .i64 ((k : Int) + 1)) := f8.v 2 rfl
     replace r5 := f8.io 5 rfl
     replace r6 := f8.iz 6 rfl
     replace r9 := f8.iz 9 rfl
     clear f8
     refine ⟨⟨k + 1, b7x5, ts ++ ((nth xs ((k : Int))).kids), τ8, ?_, ?_, st8, e5, (e6.trans (int_eq (by omega))), e0, e1, e4, ?_, ?_, r9⟩, ?_⟩
     · omega
     · first | exact flat_hit (by omega) q1 rfl (by assumption) rfl | exact flat_miss (by omega) q1 rfl (by assumption)
     · exact r5.cast (by rfl)
     · exact Fz.app r6 (r9.e (by omega) (by omega)).kl
     · simp only [m6, e6, intOf]; omega
   try simp only [decide_eq_false_iff_not] at hc2
   refine region_St (bf := [0, 0, 0, 6, 14, 30, 63, 127]) (sp := [det _ 27 _, det _ 28 _, det _ 29 _, det _ 30 _, det _ 31 _, own TrE 25 _ 0 32 ([(nth xs ((k : Int)))]), own _ _ _ 5 33 _, own _ _ _ 5 5 _]) [Ini.any _, Ini.any _, Ini.any _, Ini.any _, Ini.any _, io r5, iz r6, Ini.any _, Ini.any _, iz r9] mixed st6 (by kernel_rfl) ⟨trivial, trivial, trivial, trivial, trivial, r5, r6, trivial, trivial, r9, trivial⟩
    ⟨Ob.d fun c => r_move rfl (c.p e5),
    Ob.d fun c => r_move rfl (c.p e1),
    Ob.d fun c => r_move rfl (c.p e6),
    Ob.d fun c => r_indexAddr rfl Try.underlying23 Try.sizeOf25 (c.n 1 rfl) ((⟨hS, fun t_ h_ => (hF t_ h_).s⟩ : TlS w v xs).at st6.ext).sl.sl (c.n 2 rfl) (by omega) (by omega),
    Ob.d fun c => r_loadN (vs := [(.int .i64 ((nth xs ((k : Int))).k)), (.string ((nth xs ((k : Int))).ch)), (.bool ((nth xs ((k : Int))).ng)), (nth xs ((k : Int))).rv.v, (.int .i64 ((nth xs ((k : Int))).mn)), (.int .i64 ((nth xs ((k : Int))).mx)), (.bool ((nth xs ((k : Int))).lz)), (nth xs ((k : Int))).kv.v]) rfl Try.isAgg25 Try.sizeOf25 (c.n 3 rfl) rfl (fun _ _ hj => (((⟨hS, fun t_ h_ => (hF t_ h_).s⟩ : TlS w v xs).at (st6.ext.trans c.J.ext)).sl).elem (nth_some (i := (k : Int)) (by omega) (by omega)) hj),
    Ob.buildSlice (cells := #[(.int .i64 ((nth xs ((k : Int))).k)), (.string ((nth xs ((k : Int))).ch)), (.bool ((nth xs ((k : Int))).ng)), (nth xs ((k : Int))).rv.v, (.int .i64 ((nth xs ((k : Int))).mn)), (.int .i64 ((nth xs ((k : Int))).mx)), (.bool ((nth xs ((k : Int))).lz)), (nth xs ((k : Int))).kv.v]) rfl rfl rfl rfl Try.underlying23 Try.sizeOf25 Try.zeroValue25 rfl (by decide) (by decide) (fun _ _ _ _ c => fill1 (c.n 4 rfl) (by kernel_rfl)) rfl,
    Ob.append (t0 := 5) rfl rfl rfl rfl Try.underlying23 (i := Try.t25) rfl rfl rfl rfl (by simp only [maxLen]; (try simp); omega) (by show _ * 104 ≤ _; (try simp); omega) (fun _ _ _ _ c => ⟨c.ip 5 rfl e5, c.sm (c.n 0 rfl) e5, ⟨_, rfl, (c.ro 5 rfl).1.sl⟩⟩),
    Ob.moveT (t0 := 33) rfl rfl rfl rfl rfl (.inr rfl) (fun _ _ _ _ c => ⟨c.ro 6 rfl, rfl⟩), trivial⟩ ?_
   intro a9 w9 τ9 st9 f9
   obtain ⟨b9x32, e32⟩ : ∃ b, get a9 32 = b := ⟨_, rfl⟩
   obtain ⟨b9x5, e5⟩ : ∃ b, get a9 5 = b := ⟨_, rfl⟩
   obtain ⟨e0, e1, e4, e6, e10, e19, -⟩ := f9.ks [(0, _), (1, _), (4, _), (6, _), (10, _), (19, _)] ⟨e0, e1, e4, e6, e10, e19, trivial⟩
   have r0 : ownR TrE 25 ([(nth xs ((k : Int)))]) (τ9 0) b9x32 w9 := f9.ro 5 e32 rfl
   replace r5 : ownR TrE 25 (ts ++ ([(nth xs ((k : Int)))])) (τ9 5) b9x5 w9 := f9.ro 7 e5 rfl
   replace r6 := f9.iz 6 rfl
   replace r9 := f9.iz 9 rfl
   clear f9
   show _
   show Code.wp _ _ _ a9 w9
   refine region_St (bf := [0, 1, 3]) (sp := [det _ 11 _, det _ 12 _, det _ 6 _]) [io r0, Ini.any _, Ini.any _, Ini.any _, Ini.any _, io r5, iz r6, Ini.any _, Ini.any _, iz r9] mixed st9 (by kernel_rfl) ⟨r0, trivial, trivial, trivial, trivial, r5, r6, trivial, trivial, r9, trivial⟩
    ⟨Ob.d fun c => r_move rfl (c.p e6),
    Ob.d fun c => r_add rfl (c.n 0 rfl) rfl (by omega),
    Ob.d fun c => r_assign rfl (c.n 1 rfl), trivial⟩ ?_
   intro a10 w10 τ10 st10 f10
   obtain ⟨e0, e1, e4, e5, e10, e19, -⟩ := f10.ks [(0, _), (1, _), (4, _), (5, _), (10, _), (19, _)] ⟨e0, e1, e4, e5, e10, e19, trivial⟩
   have e6 : get a10 6 = (.int .i64 ((k : Int) + 1)) := f10.v 2 rfl
   replace r0 := f10.io 0 rfl
   replace r5 := f10.io 5 rfl
   replace r6 := f10.iz 6 rfl
   replace r9 := f10.iz 9 rfl
   clear f10
   refine ⟨⟨k + 1, b9x5, ts ++ ([(nth xs ((k : Int)))]), τ10, ?_, ?_, st10, e5, (e6.trans (int_eq (by omega))), e0, e1, e4, ?_, ?_, r9⟩, ?_⟩
   · omega
   · first | exact flat_hit (by omega) q1 rfl (by assumption) rfl | exact flat_miss (by omega) q1 rfl (by assumption)
   · exact r5.cast (by rfl)
   · exact Fz.snoc r6 (r9.e (by omega) (by omega))
   · simp only [m6, e6, intOf]; omega
 try simp only [decide_eq_false_iff_not, Int.not_lt] at hc1
 refine wp_exit ?_
 repeat (with_reducible refine then_exit ?_)
 refine exit_here ?_
 show Code.wp _ _ _ a5 w5
 refine wp_seq ?_
 refine region_St (bf := [0, 1]) (sp := [det _ 34 _, det _ 4 _]) [Ini.any _, Ini.any _, Ini.any _, Ini.any _, Ini.any _, io r5, iz r6, Ini.any _, Ini.any _, iz r9] mixed st5 (by kernel_rfl) ⟨trivial, trivial, trivial, trivial, trivial, r5, r6, trivial, trivial, r9, trivial⟩
  ⟨Ob.d fun c => r_move rfl (c.p e5),
  Ob.d fun c => r_assign rfl (c.n 0 rfl), trivial⟩ ?_
 intro a11 w11 τ11 st11 f11
 have e4 : get a11 4 = u := f11.v 1 rfl
 replace r5 := f11.io 5 rfl
 replace r6 := f11.iz 6 rfl
 replace r9 := f11.iz 9 rfl
 clear f11
 show Code.wp _ _ _ a11 w11
 refine wp_ret ?_
 repeat (first | with_reducible refine then_ret ?_ | with_reducible refine block_ret ?_)
 refine ret1 (fn := Try.f32) rfl st11.defers e4 ?_
 rw [List.take_of_length_le (by omega)] at q1
 exact ⟨_, ts, rfl, st11.ext0, ⟨r5.1, fun g_ h_ => (st11.bnd _ g_ (r5.2 g_ h_)).1⟩, r6.outo (i := 5) r5.2, q1⟩

set_option maxRecDepth 100000 in
theorem refSeq_c (F : Foot) (v : Value) (xs : List Tr) (w : World) (hS : SlT TrE w v xs) (hF : ∀ t ∈ xs, TrT F w t) (hP : sumL (xs.map wtF) ≤ 1000000) : Calls Try.prog 14 #[v] w (fun e w' => ∃ t' : Tr, e = .returned t'.v ∧ Ext none' w w' ∧ TrT ((Gn F w)) w' t' ∧ er t' = seqF (xs.map er)) := by
 refine enter (n := 14) Try.func14 rfl rfl (Nat.le_of_ble_eq_true rfl) ?_
 intro a0 τ0 ha st0
 have e0 : get a0 0 = v := ha 0 _ rfl
 clear ha
 have hle := hS.le
 have r9 : Fz (zTl (Gn F w) xs) τ0 w := TrT.inzs hF st0
 refine wp_seq ?_
 refine region_St (bf := [0]) (sp := [box _ _ 0 2 [(.int .i64 (0)), (.string ((⟨#[]⟩ : ByteArray))), (.bool (false)), (.slice none 0 0), (.int .i64 (0)), (.int .i64 (0)), (.bool (false)), (.slice none 0 0)]]) [Ini.any _, Ini.any _, Ini.any _, Ini.any _, Ini.any _, Ini.any _, Ini.any _, Ini.any _, Ini.any _, iz r9] mixed st0 (by kernel_rfl) ⟨trivial, trivial, trivial, trivial, trivial, trivial, trivial, trivial, trivial, r9, trivial⟩
  ⟨Ob.alloc rfl rfl rfl rfl Try.zeroValue25 rfl, trivial⟩ ?_
 intro a1 w1 τ1 st1 f1
 obtain ⟨b1x2, e2⟩ : ∃ b, get a1 2 = b := ⟨_, rfl⟩
 obtain ⟨e0, -⟩ := f1.ks [(0, _)] ⟨e0, trivial⟩
 have r0 : boxR 25 [(.int .i64 (0)), (.string ((⟨#[]⟩ : ByteArray))), (.bool (false)), (.slice none 0 0), (.int .i64 (0)), (.int .i64 (0)), (.bool (false)), (.slice none 0 0)] (τ1 0) b1x2 w1 := f1.rb 0 e2 rfl
 replace r9 := f1.iz 9 rfl
 clear f1
 show Code.wp _ _ _ a1 w1
 refine wp_seq ?_
 refine region_of_ops ?_
 refine ops_cut 2 (by kernel_rfl) ?_
 refine ops_St (bf := [0, 1]) (sp := [det _ 4 _, zown TrE 25 _ 1 5 (fun b : List Tr => b) (fun b : List Tr => b.map er = flatF 0 (xs.map er)) (fun b : List Tr => zTl (Gn F w) b)]) [ib r0, Ini.any _, Ini.any _, Ini.any _, Ini.any _, Ini.any _, Ini.any _, Ini.any _, Ini.any _, iz r9] st1 (by kernel_rfl) ⟨r0, trivial, trivial, trivial, trivial, trivial, trivial, trivial, trivial, r9, trivial⟩
  ⟨Ob.d fun c => r_move rfl (c.p e0),
  Ob.zo (xs := fun b : List Tr => b) (Ψ := fun b : List Tr => b.map er = flatF 0 (xs.map er)) (Φ := fun b : List Tr => zTl (Gn F w) b) fun {_ a_ _ _} c => ⟨_, _, (e_call2 rfl rfl Try.call32 rfl (c.n 0 rfl)), (kids_c _ 0 v xs _ (zl (c.iz 9 rfl) ((⟨hS, fun t_ h_ => (hF t_ h_).s⟩ : TlS w v xs).at (st1.ext.trans c.J.ext)).sl).sl (c.iz 9 rfl) (by omega)).mono (fun e w' ⟨v_, ts_, he_, hx_, ho_, ht_, hq_⟩ => ⟨v_, ts_, he_, hx_, ho_, hq_, c.tzo (tag := 1) st1 hx_ ho_ ht_⟩)⟩, trivial⟩ ?_
 intro a2 w2 τ2 st2 f2
 obtain ⟨b2x5, e5⟩ : ∃ b, get a2 5 = b := ⟨_, rfl⟩
 obtain ⟨e2, -⟩ := f2.ks [(2, _)] ⟨e2, trivial⟩
 obtain ⟨ts1_, hro2, hqts1_, hz2⟩ := f2.zo 1 e5 rfl
 replace r0 := f2.ib 0 rfl
 have r1 : ownR TrE 25 (ts1_) (τ2 1) b2x5 w2 := hro2
 replace r9 := f2.iz 9 rfl
 have r2 : Fz (zTl (Gn F w) ts1_) τ2 w2 := hz2
 clear f2
 refine only_mk ?_
 refine ops_St (bf := [0]) (sp := [det _ 3 _]) [ib r0, io r1, iz r2, Ini.any _, Ini.any _, Ini.any _, Ini.any _, Ini.any _, Ini.any _, iz r9] st2 (by kernel_rfl) ⟨r0, r1, r2, trivial, trivial, trivial, trivial, trivial, trivial, r9, trivial⟩
  ⟨Ob.d fun c => r_assign rfl (c.p e5), trivial⟩ ?_
 intro a3 w3 τ3 st3 f3
 obtain ⟨e2, -⟩ := f3.ks [(2, _)] ⟨e2, trivial⟩
 have e3 : get a3 3 = b2x5 := f3.v 0 rfl
 replace r0 := f3.ib 0 rfl
 replace r1 := f3.io 1 rfl
 replace r2 := f3.iz 2 rfl
 replace r9 := f3.iz 9 rfl
 clear f3
 obtain ⟨kv0, rfl⟩ := r1.isSl.sv
 show Code.wp _ _ _ a3 w3
 refine wp_seq ?_
 refine wp_seq ?_
 refine region_St (bf := [0, 1, 3]) (sp := [det _ 6 _, det _ 7 _, det _ 8 _]) [ib r0, io r1, iz r2, Ini.any _, Ini.any _, Ini.any _, Ini.any _, Ini.any _, Ini.any _, iz r9] mixed st3 (by kernel_rfl) ⟨r0, r1, r2, trivial, trivial, trivial, trivial, trivial, trivial, r9, trivial⟩
  ⟨Ob.d fun c => r_move rfl (c.p e3),
  Ob.d fun c => r_len rfl Try.underlying23 (c.n 0 rfl) r1.isSl,
  Ob.d fun c => r_eql rfl (c.n 1 rfl) rfl, trivial⟩ ?_
 intro a4 w4 τ4 st4 f4
 obtain ⟨e2, e3, -⟩ := f4.ks [(2, _), (3, _)] ⟨e2, e3, trivial⟩
 have e8 : get a4 8 = (.bool (decide ((ts1_.length : Int) = 1))) := f4.v 2 rfl
 replace r0 := f4.ib 0 rfl
 replace r1 := f4.io 1 rfl
 replace r2 := f4.iz 2 rfl
 replace r9 := f4.iz 9 rfl
 clear f4
 show Code.wp _ _ _ a4 w4
 refine wp_cond_split (t := decide ((ts1_.length : Int) = 1)) e8 (fun hc1 => ?_) (fun hc1 => ?_)
 · try simp only [decide_eq_true_eq] at hc1
   refine wp_seq ?_
   refine region_St (bf := [0, 1, 3, 7]) (sp := [det _ 9 _, det _ 10 _, det _ 11 _, box _ _ 0 2 [(.int .i64 ((nth ts1_ (0)).k)), (.string ((nth ts1_ (0)).ch)), (.bool ((nth ts1_ (0)).ng)), (nth ts1_ (0)).rv.v, (.int .i64 ((nth ts1_ (0)).mn)), (.int .i64 ((nth ts1_ (0)).mx)), (.bool ((nth ts1_ (0)).lz)), (nth ts1_ (0)).kv.v]]) [ib r0, io r1, iz r2, Ini.any _, Ini.any _, Ini.any _, Ini.any _, Ini.any _, Ini.any _, iz r9] mixed st4 (by kernel_rfl) ⟨r0, r1, r2, trivial, trivial, trivial, trivial, trivial, trivial, r9, trivial⟩
    ⟨Ob.d fun c => r_move rfl (c.p e3),
    Ob.d fun c => r_indexAddr rfl Try.underlying23 Try.sizeOf25 (c.n 0 rfl) r1.isSl rfl (by omega) (by omega),
    Ob.d fun c => r_loadN (vs := [(.int .i64 ((nth ts1_ (0)).k)), (.string ((nth ts1_ (0)).ch)), (.bool ((nth ts1_ (0)).ng)), (nth ts1_ (0)).rv.v, (.int .i64 ((nth ts1_ (0)).mn)), (.int .i64 ((nth ts1_ (0)).mx)), (.bool ((nth ts1_ (0)).lz)), (nth ts1_ (0)).kv.v]) rfl Try.isAgg25 Try.sizeOf25 (c.n 1 rfl) rfl (fun _ _ hj => ((c.io 1 rfl).1.sl).elem (nth_some (i := 0) (by omega) (by omega)) hj),
    Ob.storeBox (off := 0) (v := (.agg #[(.int .i64 ((nth ts1_ (0)).k)), (.string ((nth ts1_ (0)).ch)), (.bool ((nth ts1_ (0)).ng)), (nth ts1_ (0)).rv.v, (.int .i64 ((nth ts1_ (0)).mn)), (.int .i64 ((nth ts1_ (0)).mx)), (.bool ((nth ts1_ (0)).lz)), (nth ts1_ (0)).kv.v])) rfl rfl rfl rfl Try.sizeOf25 (Nat.le_of_ble_eq_true rfl) (by simp [Value.cells, Value.oneCell', Sv.v]) rfl (fun _ _ _ _ c => ⟨c.bp 0 rfl e2, c.ad ((c.p e2).trans r0.ptr) e2 rfl, (c.n 2 rfl)⟩), trivial⟩ ?_
   intro a5 w5 τ5 st5 f5
   obtain ⟨e2, e3, -⟩ := f5.ks [(2, _), (3, _)] ⟨e2, e3, trivial⟩
   replace r0 : boxR 25 [(.int .i64 ((nth ts1_ (0)).k)), (.string ((nth ts1_ (0)).ch)), (.bool ((nth ts1_ (0)).ng)), (nth ts1_ (0)).rv.v, (.int .i64 ((nth ts1_ (0)).mn)), (.int .i64 ((nth ts1_ (0)).mx)), (.bool ((nth ts1_ (0)).lz)), (nth ts1_ (0)).kv.v] (τ5 0) b1x2 w5 := f5.rb 3 e2 rfl
   replace r1 := f5.io 1 rfl
   replace r2 := f5.iz 2 rfl
   replace r9 := f5.iz 9 rfl
   clear f5
   show Code.wp _ _ _ a5 w5
   refine wp_ret ?_
   repeat (first | with_reducible refine then_ret ?_ | with_reducible refine block_ret ?_)
   refine ret1c (fn := Try.f14) rfl st5.defers e2 r0 Try.isAgg25 Try.sizeOf25 rfl ?_
   exact ⟨_, rfl, st5.ext0, (r2.e (by omega) (by omega)).out, seq_one hqts1_ (by omega)⟩
 try simp only [decide_eq_false_iff_not] at hc1
 refine wp_skip ?_
 show Code.wp _ _ _ a4 w4
 refine wp_seq ?_
 refine region_St (bf := [0, 1, 3]) (sp := [det _ 12 _, det _ 13 _, box _ _ 0 2 [(.int .i64 (0)), (.string ((⟨#[]⟩ : ByteArray))), (.bool (false)), (.slice none 0 0), (.int .i64 (0)), (.int .i64 (0)), (.bool (false)), kv0.v]]) [ib r0, io r1, iz r2, Ini.any _, Ini.any _, Ini.any _, Ini.any _, Ini.any _, Ini.any _, iz r9] mixed st4 (by kernel_rfl) ⟨r0, r1, r2, trivial, trivial, trivial, trivial, trivial, trivial, r9, trivial⟩
  ⟨Ob.d fun c => r_move rfl (c.p e3),
  Ob.d fun c => r_build (cells := #[(.int .i64 (0)), (.string ((⟨#[]⟩ : ByteArray))), (.bool (false)), (.slice none 0 0), (.int .i64 (0)), (.int .i64 (0)), (.bool (false)), kv0.v]) rfl Try.underlying25 Try.zeroValue25 (pl := #[(0, 1), (1, 1), (2, 1), (3, 1), (4, 1), (5, 1), (6, 1), (7, 1)]) (fun w_ => by simp [Try.sizeOf22, Try.sizeOf23, Try.sizeOf3, Try.sizeOf4, Try.sizeOf9]) (fill2 rfl (c.n 0 rfl) rfl),
  Ob.storeBox (off := 0) (v := (.agg #[(.int .i64 (0)), (.string ((⟨#[]⟩ : ByteArray))), (.bool (false)), (.slice none 0 0), (.int .i64 (0)), (.int .i64 (0)), (.bool (false)), kv0.v])) rfl rfl rfl rfl Try.sizeOf25 (Nat.le_of_ble_eq_true rfl) (by simp [Value.cells, Value.oneCell', Sv.v]) rfl (fun _ _ _ _ c => ⟨c.bp 0 rfl e2, c.ad ((c.p e2).trans r0.ptr) e2 rfl, (c.n 1 rfl)⟩), trivial⟩ ?_
 intro a6 w6 τ6 st6 f6
 obtain ⟨e2, -⟩ := f6.ks [(2, _)] ⟨e2, trivial⟩
 replace r0 : boxR 25 [(.int .i64 (0)), (.string ((⟨#[]⟩ : ByteArray))), (.bool (false)), (.slice none 0 0), (.int .i64 (0)), (.int .i64 (0)), (.bool (false)), kv0.v] (τ6 0) b1x2 w6 := f6.rb 2 e2 rfl
 replace r1 := f6.io 1 rfl
 replace r2 := f6.iz 2 rfl
 replace r9 := f6.iz 9 rfl
 clear f6
 show Code.wp _ _ _ a6 w6
 refine wp_ret ?_
 repeat (first | with_reducible refine then_ret ?_ | with_reducible refine block_ret ?_)
 refine ret1c (fn := Try.f14) rfl st6.defers e2 r0 Try.isAgg25 Try.sizeOf25 rfl ?_
 exact ⟨⟨0, ⟨#[]⟩, false, Sv.nil, [], 0, 0, false, kv0, ts1_⟩, rfl, st6.ext0, mk_out r1 (fun g h => .inr (st6.bnd _ _ h).1) r2.outs, by rw [er_mk]; exact seq_many hqts1_ (by omega)⟩

set_option maxRecDepth 100000 in
theorem refAlt_c (F : Foot) (v : Value) (xs : List Tr) (w : World) (hS : SlT TrE w v xs) (hF : ∀ t ∈ xs, TrT F w t) (hP : sumL (xs.map wtF) ≤ 1000000) : Calls Try.prog 16 #[v] w (fun e w' => ∃ t' : Tr, e = .returned t'.v ∧ Ext none' w w' ∧ TrT ((Gn F w)) w' t' ∧ er t' = altF (xs.map er)) := by
 refine enter (n := 18) Try.func16 rfl rfl (Nat.le_of_ble_eq_true rfl) ?_
 intro a0 τ0 ha st0
 have e0 : get a0 0 = v := ha 0 _ rfl
 clear ha
 have hle := hS.le
 have r9 : Fz (zTl (Gn F w) xs) τ0 w := TrT.inzs hF st0
 refine wp_seq ?_
 refine region_St (bf := [0]) (sp := [box _ _ 0 2 [(.int .i64 (0)), (.string ((⟨#[]⟩ : ByteArray))), (.bool (false)), (.slice none 0 0), (.int .i64 (0)), (.int .i64 (0)), (.bool (false)), (.slice none 0 0)]]) [Ini.any _, Ini.any _, Ini.any _, Ini.any _, Ini.any _, Ini.any _, Ini.any _, Ini.any _, Ini.any _, iz r9] mixed st0 (by kernel_rfl) ⟨trivial, trivial, trivial, trivial, trivial, trivial, trivial, trivial, trivial, r9, trivial⟩
  ⟨Ob.alloc rfl rfl rfl rfl Try.zeroValue25 rfl, trivial⟩ ?_
 intro a1 w1 τ1 st1 f1
 obtain ⟨b1x2, e2⟩ : ∃ b, get a1 2 = b := ⟨_, rfl⟩
 obtain ⟨e0, -⟩ := f1.ks [(0, _)] ⟨e0, trivial⟩
 have r0 : boxR 25 [(.int .i64 (0)), (.string ((⟨#[]⟩ : ByteArray))), (.bool (false)), (.slice none 0 0), (.int .i64 (0)), (.int .i64 (0)), (.bool (false)), (.slice none 0 0)] (τ1 0) b1x2 w1 := f1.rb 0 e2 rfl
 replace r9 := f1.iz 9 rfl
 clear f1
 show Code.wp _ _ _ a1 w1
 refine wp_seq ?_
 refine region_of_ops ?_
 refine ops_cut 2 (by kernel_rfl) ?_
 refine ops_St (bf := [0, 1]) (sp := [det _ 4 _, zown TrE 25 _ 1 5 (fun b : List Tr => b) (fun b : List Tr => b.map er = flatF 1 (xs.map er)) (fun b : List Tr => zTl (Gn F w) b)]) [ib r0, Ini.any _, Ini.any _, Ini.any _, Ini.any _, Ini.any _, Ini.any _, Ini.any _, Ini.any _, iz r9] st1 (by kernel_rfl) ⟨r0, trivial, trivial, trivial, trivial, trivial, trivial, trivial, trivial, r9, trivial⟩
  ⟨Ob.d fun c => r_move rfl (c.p e0),
  Ob.zo (xs := fun b : List Tr => b) (Ψ := fun b : List Tr => b.map er = flatF 1 (xs.map er)) (Φ := fun b : List Tr => zTl (Gn F w) b) fun {_ a_ _ _} c => ⟨_, _, (e_call2 rfl rfl Try.call32 rfl (c.n 0 rfl)), (kids_c _ 1 v xs _ (zl (c.iz 9 rfl) ((⟨hS, fun t_ h_ => (hF t_ h_).s⟩ : TlS w v xs).at (st1.ext.trans c.J.ext)).sl).sl (c.iz 9 rfl) (by omega)).mono (fun e w' ⟨v_, ts_, he_, hx_, ho_, ht_, hq_⟩ => ⟨v_, ts_, he_, hx_, ho_, hq_, c.tzo (tag := 1) st1 hx_ ho_ ht_⟩)⟩, trivial⟩ ?_
 intro a2 w2 τ2 st2 f2
 obtain ⟨b2x5, e5⟩ : ∃ b, get a2 5 = b := ⟨_, rfl⟩
 obtain ⟨e2, -⟩ := f2.ks [(2, _)] ⟨e2, trivial⟩
 obtain ⟨ts1_, hro2, hqts1_, hz2⟩ := f2.zo 1 e5 rfl
 replace r0 := f2.ib 0 rfl
 have r1 : ownR TrE 25 (ts1_) (τ2 1) b2x5 w2 := hro2
 replace r9 := f2.iz 9 rfl
 have r2 : Fz (zTl (Gn F w) ts1_) τ2 w2 := hz2
 clear f2
 refine only_mk ?_
 refine ops_St (bf := [0]) (sp := [det _ 3 _]) [ib r0, io r1, iz r2, Ini.any _, Ini.any _, Ini.any _, Ini.any _, Ini.any _, Ini.any _, iz r9] st2 (by kernel_rfl) ⟨r0, r1, r2, trivial, trivial, trivial, trivial, trivial, trivial, r9, trivial⟩
  ⟨Ob.d fun c => r_assign rfl (c.p e5), trivial⟩ ?_
 intro a3 w3 τ3 st3 f3
 obtain ⟨e2, -⟩ := f3.ks [(2, _)] ⟨e2, trivial⟩
 have e3 : get a3 3 = b2x5 := f3.v 0 rfl
 replace r0 := f3.ib 0 rfl
 replace r1 := f3.io 1 rfl
 replace r2 := f3.iz 2 rfl
 replace r9 := f3.iz 9 rfl
 clear f3
 obtain ⟨kv0, rfl⟩ := r1.isSl.sv
 show Code.wp _ _ _ a3 w3
 refine wp_seq ?_
 refine wp_seq ?_
 refine region_St (bf := [0, 1, 3]) (sp := [det _ 6 _, det _ 7 _, det _ 8 _]) [ib r0, io r1, iz r2, Ini.any _, Ini.any _, Ini.any _, Ini.any _, Ini.any _, Ini.any _, iz r9] mixed st3 (by kernel_rfl) ⟨r0, r1, r2, trivial, trivial, trivial, trivial, trivial, trivial, r9, trivial⟩
  ⟨Ob.d fun c => r_move rfl (c.p e3),
  Ob.d fun c => r_len rfl Try.underlying23 (c.n 0 rfl) r1.isSl,
  Ob.d fun c => r_eql rfl (c.n 1 rfl) rfl, trivial⟩ ?_
 intro a4 w4 τ4 st4 f4
 obtain ⟨e2, e3, -⟩ := f4.ks [(2, _), (3, _)] ⟨e2, e3, trivial⟩
 have e8 : get a4 8 = (.bool (decide ((ts1_.length : Int) = 0))) := f4.v 2 rfl
 replace r0 := f4.ib 0 rfl
 replace r1 := f4.io 1 rfl
 replace r2 := f4.iz 2 rfl
 replace r9 := f4.iz 9 rfl
 clear f4
 show Code.wp _ _ _ a4 w4
 refine wp_cond_split (t := decide ((ts1_.length : Int) = 0)) e8 (fun hc1 => ?_) (fun hc1 => ?_)
 · try simp only [decide_eq_true_eq] at hc1
   refine wp_seq ?_
   refine region_St (bf := [0, 1]) (sp := [det _ 9 _, box _ _ 0 2 [(.int .i64 (0)), (.string ((⟨#[]⟩ : ByteArray))), (.bool (false)), (.slice none 0 0), (.int .i64 (0)), (.int .i64 (0)), (.bool (false)), (.slice none 0 0)]]) [ib r0, io r1, iz r2, Ini.any _, Ini.any _, Ini.any _, Ini.any _, Ini.any _, Ini.any _, iz r9] mixed st4 (by kernel_rfl) ⟨r0, r1, r2, trivial, trivial, trivial, trivial, trivial, trivial, r9, trivial⟩
    ⟨Ob.d fun c => r_build (cells := #[(.int .i64 (0)), (.string ((⟨#[]⟩ : ByteArray))), (.bool (false)), (.slice none 0 0), (.int .i64 (0)), (.int .i64 (0)), (.bool (false)), (.slice none 0 0)]) rfl Try.underlying25 Try.zeroValue25 (pl := #[(0, 1), (1, 1), (2, 1), (3, 1), (4, 1), (5, 1), (6, 1), (7, 1)]) (fun w_ => by simp [Try.sizeOf22, Try.sizeOf23, Try.sizeOf3, Try.sizeOf4, Try.sizeOf9]) (fill1 rfl rfl),
    Ob.storeBox (off := 0) (v := (.agg #[(.int .i64 (0)), (.string ((⟨#[]⟩ : ByteArray))), (.bool (false)), (.slice none 0 0), (.int .i64 (0)), (.int .i64 (0)), (.bool (false)), (.slice none 0 0)])) rfl rfl rfl rfl Try.sizeOf25 (Nat.le_of_ble_eq_true rfl) (by simp [Value.cells, Value.oneCell', Sv.v]) rfl (fun _ _ _ _ c => ⟨c.bp 0 rfl e2, c.ad ((c.p e2).trans r0.ptr) e2 rfl, (c.n 0 rfl)⟩), trivial⟩ ?_
   intro a5 w5 τ5 st5 f5
   obtain ⟨e2, e3, -⟩ := f5.ks [(2, _), (3, _)] ⟨e2, e3, trivial⟩
   replace r0 : boxR 25 [(.int .i64 (0)), (.string ((⟨#[]⟩ : ByteArray))), (.bool (false)), (.slice none 0 0), (.int .i64 (0)), (.int .i64 (0)), (.bool (false)), (.slice none 0 0)] (τ5 0) b1x2 w5 := f5.rb 1 e2 rfl
   replace r1 := f5.io 1 rfl
   replace r2 := f5.iz 2 rfl
   replace r9 := f5.iz 9 rfl
   clear f5
   show Code.wp _ _ _ a5 w5
   refine wp_ret ?_
   repeat (first | with_reducible refine then_ret ?_ | with_reducible refine block_ret ?_)
   refine ret1c (fn := Try.f16) rfl st5.defers e2 r0 Try.isAgg25 Try.sizeOf25 rfl ?_
   exact ⟨mkT 0 [], rfl, st5.ext0, leafTr _ _ _ _ _ _ _ _, alt_none hqts1_ (by omega)⟩
 try simp only [decide_eq_false_iff_not] at hc1
 refine wp_skip ?_
 show Code.wp _ _ _ a4 w4
 refine wp_seq ?_
 refine wp_seq ?_
 refine region_St (bf := [0, 1, 3]) (sp := [det _ 10 _, det _ 11 _, det _ 12 _]) [ib r0, io r1, iz r2, Ini.any _, Ini.any _, Ini.any _, Ini.any _, Ini.any _, Ini.any _, iz r9] mixed st4 (by kernel_rfl) ⟨r0, r1, r2, trivial, trivial, trivial, trivial, trivial, trivial, r9, trivial⟩
  ⟨Ob.d fun c => r_move rfl (c.p e3),
  Ob.d fun c => r_len rfl Try.underlying23 (c.n 0 rfl) r1.isSl,
  Ob.d fun c => r_eql rfl (c.n 1 rfl) rfl, trivial⟩ ?_
 intro a6 w6 τ6 st6 f6
 obtain ⟨e2, e3, -⟩ := f6.ks [(2, _), (3, _)] ⟨e2, e3, trivial⟩
 have e12 : get a6 12 = (.bool (decide ((ts1_.length : Int) = 1))) := f6.v 2 rfl
 replace r0 := f6.ib 0 rfl
 replace r1 := f6.io 1 rfl
 replace r2 := f6.iz 2 rfl
 replace r9 := f6.iz 9 rfl
 clear f6
 show Code.wp _ _ _ a6 w6
 refine wp_cond_split (t := decide ((ts1_.length : Int) = 1)) e12 (fun hc2 => ?_) (fun hc2 => ?_)
 · try simp only [decide_eq_true_eq] at hc2
   refine wp_seq ?_
   refine region_St (bf := [0, 1, 3, 7]) (sp := [det _ 13 _, det _ 14 _, det _ 15 _, box _ _ 0 2 [(.int .i64 ((nth ts1_ (0)).k)), (.string ((nth ts1_ (0)).ch)), (.bool ((nth ts1_ (0)).ng)), (nth ts1_ (0)).rv.v, (.int .i64 ((nth ts1_ (0)).mn)), (.int .i64 ((nth ts1_ (0)).mx)), (.bool ((nth ts1_ (0)).lz)), (nth ts1_ (0)).kv.v]]) [ib r0, io r1, iz r2, Ini.any _, Ini.any _, Ini.any _, Ini.any _, Ini.any _, Ini.any _, iz r9] mixed st6 (by kernel_rfl) ⟨r0, r1, r2, trivial, trivial, trivial, trivial, trivial, trivial, r9, trivial⟩
    ⟨Ob.d fun c => r_move rfl (c.p e3),
    Ob.d fun c => r_indexAddr rfl Try.underlying23 Try.sizeOf25 (c.n 0 rfl) r1.isSl rfl (by omega) (by omega),
    Ob.d fun c => r_loadN (vs := [(.int .i64 ((nth ts1_ (0)).k)), (.string ((nth ts1_ (0)).ch)), (.bool ((nth ts1_ (0)).ng)), (nth ts1_ (0)).rv.v, (.int .i64 ((nth ts1_ (0)).mn)), (.int .i64 ((nth ts1_ (0)).mx)), (.bool ((nth ts1_ (0)).lz)), (nth ts1_ (0)).kv.v]) rfl Try.isAgg25 Try.sizeOf25 (c.n 1 rfl) rfl (fun _ _ hj => ((c.io 1 rfl).1.sl).elem (nth_some (i := 0) (by omega) (by omega)) hj),
    Ob.storeBox (off := 0) (v := (.agg #[(.int .i64 ((nth ts1_ (0)).k)), (.string ((nth ts1_ (0)).ch)), (.bool ((nth ts1_ (0)).ng)), (nth ts1_ (0)).rv.v, (.int .i64 ((nth ts1_ (0)).mn)), (.int .i64 ((nth ts1_ (0)).mx)), (.bool ((nth ts1_ (0)).lz)), (nth ts1_ (0)).kv.v])) rfl rfl rfl rfl Try.sizeOf25 (Nat.le_of_ble_eq_true rfl) (by simp [Value.cells, Value.oneCell', Sv.v]) rfl (fun _ _ _ _ c => ⟨c.bp 0 rfl e2, c.ad ((c.p e2).trans r0.ptr) e2 rfl, (c.n 2 rfl)⟩), trivial⟩ ?_
   intro a7 w7 τ7 st7 f7
   obtain ⟨e2, e3, -⟩ := f7.ks [(2, _), (3, _)] ⟨e2, e3, trivial⟩
   replace r0 : boxR 25 [(.int .i64 ((nth ts1_ (0)).k)), (.string ((nth ts1_ (0)).ch)), (.bool ((nth ts1_ (0)).ng)), (nth ts1_ (0)).rv.v, (.int .i64 ((nth ts1_ (0)).mn)), (.int .i64 ((nth ts1_ (0)).mx)), (.bool ((nth ts1_ (0)).lz)), (nth ts1_ (0)).kv.v] (τ7 0) b1x2 w7 := f7.rb 3 e2 rfl
   replace r1 := f7.io 1 rfl
   replace r2 := f7.iz 2 rfl
   replace r9 := f7.iz 9 rfl
   clear f7
   show Code.wp _ _ _ a7 w7
   refine wp_ret ?_
   repeat (first | with_reducible refine then_ret ?_ | with_reducible refine block_ret ?_)
   refine ret1c (fn := Try.f16) rfl st7.defers e2 r0 Try.isAgg25 Try.sizeOf25 rfl ?_
   exact ⟨_, rfl, st7.ext0, (r2.e (by omega) (by omega)).out, alt_one hqts1_ (by omega)⟩
 try simp only [decide_eq_false_iff_not] at hc2
 refine wp_skip ?_
 show Code.wp _ _ _ a6 w6
 refine wp_seq ?_
 refine region_St (bf := [0, 1, 3]) (sp := [det _ 16 _, det _ 17 _, box _ _ 0 2 [(.int .i64 (1)), (.string ((⟨#[]⟩ : ByteArray))), (.bool (false)), (.slice none 0 0), (.int .i64 (0)), (.int .i64 (0)), (.bool (false)), kv0.v]]) [ib r0, io r1, iz r2, Ini.any _, Ini.any _, Ini.any _, Ini.any _, Ini.any _, Ini.any _, iz r9] mixed st6 (by kernel_rfl) ⟨r0, r1, r2, trivial, trivial, trivial, trivial, trivial, trivial, r9, trivial⟩
  ⟨Ob.d fun c => r_move rfl (c.p e3),
  Ob.d fun c => r_build (cells := #[(.int .i64 (1)), (.string ((⟨#[]⟩ : ByteArray))), (.bool (false)), (.slice none 0 0), (.int .i64 (0)), (.int .i64 (0)), (.bool (false)), kv0.v]) rfl Try.underlying25 Try.zeroValue25 (pl := #[(0, 1), (1, 1), (2, 1), (3, 1), (4, 1), (5, 1), (6, 1), (7, 1)]) (fun w_ => by simp [Try.sizeOf22, Try.sizeOf23, Try.sizeOf3, Try.sizeOf4, Try.sizeOf9]) (fill2 rfl (c.n 0 rfl) rfl),
  Ob.storeBox (off := 0) (v := (.agg #[(.int .i64 (1)), (.string ((⟨#[]⟩ : ByteArray))), (.bool (false)), (.slice none 0 0), (.int .i64 (0)), (.int .i64 (0)), (.bool (false)), kv0.v])) rfl rfl rfl rfl Try.sizeOf25 (Nat.le_of_ble_eq_true rfl) (by simp [Value.cells, Value.oneCell', Sv.v]) rfl (fun _ _ _ _ c => ⟨c.bp 0 rfl e2, c.ad ((c.p e2).trans r0.ptr) e2 rfl, (c.n 1 rfl)⟩), trivial⟩ ?_
 intro a8 w8 τ8 st8 f8
 obtain ⟨e2, -⟩ := f8.ks [(2, _)] ⟨e2, trivial⟩
 replace r0 : boxR 25 [(.int .i64 (1)), (.string ((⟨#[]⟩ : ByteArray))), (.bool (false)), (.slice none 0 0), (.int .i64 (0)), (.int .i64 (0)), (.bool (false)), kv0.v] (τ8 0) b1x2 w8 := f8.rb 2 e2 rfl
 replace r1 := f8.io 1 rfl
 replace r2 := f8.iz 2 rfl
 replace r9 := f8.iz 9 rfl
 clear f8
 show Code.wp _ _ _ a8 w8
 refine wp_ret ?_
 repeat (first | with_reducible refine then_ret ?_ | with_reducible refine block_ret ?_)
 refine ret1c (fn := Try.f16) rfl st8.defers e2 r0 Try.isAgg25 Try.sizeOf25 rfl ?_
 exact ⟨⟨1, ⟨#[]⟩, false, Sv.nil, [], 0, 0, false, kv0, ts1_⟩, rfl, st8.ext0, mk_out r1 (fun g h => .inr (st8.bnd _ _ h).1) r2.outs, by rw [er_mk]; exact alt_many hqts1_ (by omega) (by omega)⟩
end B
end Go.Proofs.Ytocmchlhbniloaa
