/-
  Walks, printed by a program (gen.py): LChangeHalves.
-/
import Derived.Test.YtfkjmkngiiokmaaChC
import Derived.Test.YtfkjmkngiiokmaaChgL
set_option linter.unusedSimpArgs false
set_option linter.unusedVariables false
namespace Go.Proofs.Ytfkjmkngiiokmaa
namespace B
open Go.RowKit
open Srt
set_option maxRecDepth 100000 in
set_option maxHeartbeats 4000000 in
theorem changeHalves_c (s : ByteArray) (v : Value) (xs : List (Int × Int × ByteArray)) (cu n : Int) (r : Bool) (w : World) (hS : SlT EditE w v xs) : Calls Try.prog 11 #[(.string (s)), v, (.int .i64 (cu)), (.int .i64 (n)), (.bool (r))] w (fun e w' => e = .returned (.bool (true)) ∧ Ext none' w w') := by
 refine enter (n := 98) Try.func11 rfl rfl (Nat.le_of_ble_eq_true rfl) ?_
 intro a0 τ0 ha st0
 have e0 : get a0 0 = (.string (s)) := ha 0 _ rfl
 have e1 : get a0 1 = v := ha 1 _ rfl
 have e2 : get a0 2 = (.int .i64 (cu)) := ha 2 _ rfl
 have e3 : get a0 3 = (.int .i64 (n)) := ha 3 _ rfl
 have e4 : get a0 4 = (.bool (r)) := ha 4 _ rfl
 clear ha
 refine wp_seq ?_
 refine region_St (bf := [0]) (sp := [det _ 10 _]) [] mixed st0 (by kernel_rfl) trivial
  ⟨Ob.d fun c => r_assign rfl rfl, trivial⟩ ?_
 intro a1 w1 τ1 st1 f1
 obtain ⟨e0, e1, e2, e3, e4, -⟩ := f1.ks [(0, _), (1, _), (2, _), (3, _), (4, _)] ⟨e0, e1, e2, e3, e4, trivial⟩
 have e10 : get a1 10 = (.bool (false)) := f1.v 0 rfl
 clear f1
 show Code.wp _ _ _ a1 w1
 refine wp_seq ?_
 refine wp_seq ?_
 refine region_St (bf := [0, 1, 3]) (sp := [det _ 21 _, det _ 22 _, det _ 23 _]) [] mixed st1 (by kernel_rfl) trivial
  ⟨Ob.d fun c => r_move rfl (c.p e0),
  Ob.d fun c => r_lenS rfl Try.underlying9 (c.n 0 rfl),
  Ob.d fun c => r_gtr rfl (c.n 1 rfl) rfl, trivial⟩ ?_
 intro a2 w2 τ2 st2 f2
 obtain ⟨e0, e1, e2, e3, e4, e10, -⟩ := f2.ks [(0, _), (1, _), (2, _), (3, _), (4, _), (10, _)] ⟨e0, e1, e2, e3, e4, e10, trivial⟩
 have e23 : get a2 23 = (.bool (decide (200 < (s.size : Int)))) := f2.v 2 rfl
 clear f2
 show Code.wp _ _ _ a2 w2
 refine wp_cond_split (t := decide (200 < (s.size : Int))) e23 (fun hc1 => ?_) (fun hc1 => ?_)
 · try simp only [decide_eq_true_eq] at hc1
   refine wp_seq ?_
   refine region_St (bf := [0, 1]) (sp := [det _ 24 _, det _ 10 _]) [] mixed st2 (by kernel_rfl) trivial
    ⟨Ob.c fun c => ⟨_, _, (e_call0 rfl rfl Try.call14), awake_c _⟩,
    Ob.d fun c => r_assign rfl (c.n 0 rfl), trivial⟩ ?_
   intro a3 w3 τ3 st3 f3
   obtain ⟨e0, e1, e2, e3, e4, -⟩ := f3.ks [(0, _), (1, _), (2, _), (3, _), (4, _)] ⟨e0, e1, e2, e3, e4, trivial⟩
   have e10 : get a3 10 = (.bool (true)) := f3.v 1 rfl
   clear f3
   show Code.wp _ _ _ a3 w3
   refine wp_ret ?_
   repeat (first | with_reducible refine then_ret ?_ | with_reducible refine block_ret ?_)
   refine ret1 (fn := Try.f11) rfl st3.defers e10 ?_
   exact ⟨rfl, st3.ext0⟩
 try simp only [decide_eq_false_iff_not, Int.not_lt] at hc1
 refine wp_skip ?_
 show Code.wp _ _ _ a2 w2
 refine wp_seq ?_
 refine region_St (bf := [0, 1, 0, 7, 15]) (sp := [det _ 25 _, det _ 26 _, det _ 27 _, own _ _ _ 0 28 _, own _ _ _ 0 11 _]) [] mixed st2 (by kernel_rfl) trivial
  ⟨Ob.d fun c => r_move rfl (c.p e0),
  Ob.d fun c => r_lenS rfl Try.underlying9 (c.n 0 rfl),
  Ob.d fun c => r_move rfl (c.p e1),
  Ob.callOwn rfl rfl rfl (fun _ a_ _ _ c => ⟨_, _, (e_call2 rfl rfl Try.call24 (c.n 1 rfl) (c.n 2 rfl)), apartP_c (s.size : Int) v xs _ (hS.at (st2.ext.trans c.J.ext)) (by omega) (by omega)⟩),
  Ob.moveT (t0 := 28) rfl rfl rfl rfl rfl (.inr rfl) (fun _ _ _ _ c => ⟨c.ro 3 rfl, rfl⟩), trivial⟩ ?_
 intro a4 w4 τ4 st4 f4
 obtain ⟨b4x11, e11⟩ : ∃ b, get a4 11 = b := ⟨_, rfl⟩
 obtain ⟨e0, e2, e3, e4, e10, -⟩ := f4.ks [(0, _), (2, _), (3, _), (4, _), (10, _)] ⟨e0, e2, e3, e4, e10, trivial⟩
 have r0 : ownR EditE 45 (apF (s.size : Int) xs) (τ4 0) b4x11 w4 := f4.ro 4 e11 rfl
 clear f4
 obtain ⟨hap, hez, hel⟩ := apF_ap (n := (s.size : Int)) (by omega) xs
 obtain ⟨f1, f2, f3, f4⟩ := facts6 hap (List.Perm.refl _) (by omega) (by omega) (by omega)
 show Code.wp _ _ _ a4 w4
 refine wp_seq ?_
 refine region_St (bf := [0, 0, 2, 6, 15, 31]) (sp := [det _ 29 _, det _ 30 _, det _ 31 _, det _ 32 _, det _ 33 _, det _ 12 _]) [io r0] mixed st4 (by kernel_rfl) ⟨r0, trivial⟩
  ⟨Ob.d fun c => r_move rfl (c.p e2),
  Ob.d fun c => r_move rfl (c.p e11),
  Ob.d fun c => r_len rfl Try.underlying22 (c.n 1 rfl) r0.isSl,
  Ob.d fun c => r_add rfl (c.n 2 rfl) rfl (by omega),
  Ob.c fun c => ⟨_, _, (e_call2 rfl rfl Try.call28 (c.n 0 rfl) (c.n 3 rfl)), low_c cu (((apF (s.size : Int) xs).length : Int) + 1) _ (by omega) (by omega)⟩,
  Ob.d fun c => r_assign rfl (c.n 4 rfl), trivial⟩ ?_
 intro a5 w5 τ5 st5 f5
 obtain ⟨e0, e3, e4, e10, e11, -⟩ := f5.ks [(0, _), (3, _), (4, _), (10, _), (11, _)] ⟨e0, e3, e4, e10, e11, trivial⟩
 have e12 : get a5 12 = (.int .i64 (lowF cu (((apF (s.size : Int) xs).length : Int) + 1))) := f5.v 5 rfl
 replace r0 := f5.io 0 rfl
 clear f5
 have hlow := low_range cu (((apF (s.size : Int) xs).length : Int) + 1) (by omega) (by omega)
 obtain ⟨k, hk⟩ : ∃ x_ : Nat, lowF cu (((apF (s.size : Int) xs).length : Int) + 1) = (x_ : Int) := ⟨(lowF cu (((apF (s.size : Int) xs).length : Int) + 1)).toNat, by omega⟩
 replace e12 := e12.trans (int_eq hk)
 obtain ⟨p1, p2, p3, p4⟩ := halves (k := k) hap (by omega) (by omega) hel (by omega)
 have hz1 := seg_sizes (apF (s.size : Int) xs) k ((apF (s.size : Int) xs).length - k)
 have hz0 := seg_sizes (apF (s.size : Int) xs) 0 (k - 0)
 have hn1 := seg_length (apF (s.size : Int) xs) k ((apF (s.size : Int) xs).length - k)
 have hn0 := seg_length (apF (s.size : Int) xs) 0 (k - 0)
 have hTs := tx_small (ap_drop (k := k) hap)
 have hz2 : sizes ((apF (s.size : Int) xs).drop k) ≤ 200 := by
   have h_ := sizes_append ((apF (s.size : Int) xs).take k) ((apF (s.size : Int) xs).drop k)
   rw [List.take_append_drop] at h_
   have h2_ := sizes_nonneg ((apF (s.size : Int) xs).take k)
   omega
 have hz3 := sizes_nonneg ((apF (s.size : Int) xs).drop k)
 show Code.wp _ _ _ a5 w5
 refine wp_seq ?_
 refine region_St (bf := [0, 0, 3, 7, 15, 15, 31, 127]) (sp := [det _ 35 _, det _ 36 _, det _ 37 _, det _ 34 _, det _ 38 _, det _ 39 _, det _ 13 _, det _ 14 _]) [io r0] mixed st5 (by kernel_rfl) ⟨r0, trivial⟩
  ⟨Ob.d fun c => r_move rfl (c.p e0),
  Ob.d fun c => r_move rfl (c.p e11),
  Ob.c fun c => ⟨_, _, (e_call2 rfl rfl Try.call15 (c.n 0 rfl) (c.n 1 rfl)), applyE_c s b4x11 (apF (s.size : Int) xs) _ (c.io 0 rfl).1.sl (by omega) (by omega) (by omega)⟩,
  Ob.d fun c => r_move rfl (c.n 2 rfl),
  Ob.d fun c => r_extract rfl (c.n 3 rfl) rfl,
  Ob.d fun c => r_extract rfl (c.n 3 rfl) rfl,
  Ob.d fun c => r_assign rfl (c.n 4 rfl),
  Ob.d fun c => r_assign rfl (c.n 5 rfl), trivial⟩ ?_
 intro a6 w6 τ6 st6 f6
 obtain ⟨e0, e3, e4, e10, e11, e12, -⟩ := f6.ks [(0, _), (3, _), (4, _), (10, _), (11, _), (12, _)] ⟨e0, e3, e4, e10, e11, e12, trivial⟩
 have e13 : get a6 13 = (.string (applyF s (apF (s.size : Int) xs))) := f6.v 6 rfl
 have e14 : get a6 14 = (.int .i64 (mayEd (s.size : Int) (apF (s.size : Int) xs))) := f6.v 7 rfl
 replace r0 := f6.io 0 rfl
 clear f6
 replace e13 := e13.trans (congrArg Value.string (show applyF s (apF (s.size : Int) xs) = (tx (appL (bs s) 0 (apF (s.size : Int) xs))) from by exact f2))
 replace e14 := e14.trans (int_eq (show mayEd (s.size : Int) (apF (s.size : Int) xs) = ((0 : Int) : Int) from by exact f1))
 show Code.wp _ _ _ a6 w6
 refine wp_seq ?_
 refine region_St (bf := [0, 0, 0, 6, 15, 31, 63, 63, 127, 511]) (sp := [det _ 41 _, det _ 42 _, det _ 43 _, det _ 44 _, det _ 45 _, det _ 40 _, det _ 46 _, det _ 47 _, det _ 15 _, det _ 16 _]) [io r0] mixed st6 (by kernel_rfl) ⟨r0, trivial⟩
  ⟨Ob.d fun c => r_move rfl (c.p e0),
  Ob.d fun c => r_move rfl (c.p e11),
  Ob.d fun c => r_move rfl (c.p e12),
  Ob.d fun c => r_sliceLo rfl Try.underlying22 Try.sizeOf45 (c.n 1 rfl) r0.isSl (c.n 2 rfl) (by omega) (by omega),
  Ob.c fun c => ⟨_, _, (e_call2 rfl rfl Try.call15 (c.n 0 rfl) (c.n 3 rfl)), applyE_c s (subV b4x11 k ((apF (s.size : Int) xs).length) 3) (((apF (s.size : Int) xs).drop k).take (((apF (s.size : Int) xs).length) - k)) _ ((c.io 0 rfl).1.sl.sub (lo := k) (hi := (apF (s.size : Int) xs).length) (by omega) (by omega)) (by omega) (by omega) (by omega)⟩,
  Ob.d fun c => r_move rfl (c.n 4 rfl),
  Ob.d fun c => r_extract rfl (c.n 5 rfl) rfl,
  Ob.d fun c => r_extract rfl (c.n 5 rfl) rfl,
  Ob.d fun c => r_assign rfl (c.n 6 rfl),
  Ob.d fun c => r_assign rfl (c.n 7 rfl), trivial⟩ ?_
 intro a7 w7 τ7 st7 f7
 obtain ⟨e0, e3, e4, e10, e11, e12, e13, e14, -⟩ := f7.ks [(0, _), (3, _), (4, _), (10, _), (11, _), (12, _), (13, _), (14, _)] ⟨e0, e3, e4, e10, e11, e12, e13, e14, trivial⟩
 have e15 : get a7 15 = (.string (applyF s (((apF (s.size : Int) xs).drop k).take (((apF (s.size : Int) xs).length) - k)))) := f7.v 8 rfl
 have e16 : get a7 16 = (.int .i64 (mayEd (s.size : Int) (((apF (s.size : Int) xs).drop k).take (((apF (s.size : Int) xs).length) - k)))) := f7.v 9 rfl
 replace r0 := f7.io 0 rfl
 clear f7
 replace e15 := e15.trans (congrArg Value.string (show applyF s (((apF (s.size : Int) xs).drop k).take (((apF (s.size : Int) xs).length) - k)) = (tx (appL (bs s) 0 ((apF (s.size : Int) xs).drop k))) from by exact p2))
 replace e16 := e16.trans (int_eq (show mayEd (s.size : Int) (((apF (s.size : Int) xs).drop k).take (((apF (s.size : Int) xs).length) - k)) = ((0 : Int) : Int) from by exact p1))
 show Code.wp _ _ _ a7 w7
 refine wp_seq ?_
 refine region_St (bf := [0, 0, 0, 6, 15, 31, 63, 63, 127, 511]) (sp := [det _ 49 _, det _ 50 _, det _ 51 _, det _ 52 _, det _ 53 _, det _ 48 _, det _ 54 _, det _ 55 _, det _ 17 _, det _ 18 _]) [io r0] mixed st7 (by kernel_rfl) ⟨r0, trivial⟩
  ⟨Ob.d fun c => r_move rfl (c.p e15),
  Ob.d fun c => r_move rfl (c.p e11),
  Ob.d fun c => r_move rfl (c.p e12),
  Ob.d fun c => r_sliceHi rfl Try.underlying22 Try.sizeOf45 (c.n 1 rfl) r0.isSl (c.n 2 rfl) (by omega) (by omega),
  Ob.c fun c => ⟨_, _, (e_call2 rfl rfl Try.call15 (c.n 0 rfl) (c.n 3 rfl)), applyE_c (tx (appL (bs s) 0 ((apF (s.size : Int) xs).drop k))) (subV b4x11 0 k 3) (((apF (s.size : Int) xs).drop 0).take (k - 0)) _ ((c.io 0 rfl).1.sl.sub (lo := 0) (hi := k) (by omega) (by omega)) (by omega) (by omega) (by omega)⟩,
  Ob.d fun c => r_move rfl (c.n 4 rfl),
  Ob.d fun c => r_extract rfl (c.n 5 rfl) rfl,
  Ob.d fun c => r_extract rfl (c.n 5 rfl) rfl,
  Ob.d fun c => r_assign rfl (c.n 6 rfl),
  Ob.d fun c => r_assign rfl (c.n 7 rfl), trivial⟩ ?_
 intro a8 w8 τ8 st8 f8
 obtain ⟨e0, e3, e4, e10, e11, e12, e13, e14, e16, -⟩ := f8.ks [(0, _), (3, _), (4, _), (10, _), (11, _), (12, _), (13, _), (14, _), (16, _)] ⟨e0, e3, e4, e10, e11, e12, e13, e14, e16, trivial⟩
 have e17 : get a8 17 = (.string (applyF (tx (appL (bs s) 0 ((apF (s.size : Int) xs).drop k))) (((apF (s.size : Int) xs).drop 0).take (k - 0)))) := f8.v 8 rfl
 have e18 : get a8 18 = (.int .i64 (mayEd ((tx (appL (bs s) 0 ((apF (s.size : Int) xs).drop k))).size : Int) (((apF (s.size : Int) xs).drop 0).take (k - 0)))) := f8.v 9 rfl
 replace r0 := f8.io 0 rfl
 clear f8
 replace e17 := e17.trans (congrArg Value.string (show applyF (tx (appL (bs s) 0 ((apF (s.size : Int) xs).drop k))) (((apF (s.size : Int) xs).drop 0).take (k - 0)) = (tx (appL (bs s) 0 (apF (s.size : Int) xs))) from by exact p4))
 replace e18 := e18.trans (int_eq (show mayEd ((tx (appL (bs s) 0 ((apF (s.size : Int) xs).drop k))).size : Int) (((apF (s.size : Int) xs).drop 0).take (k - 0)) = ((0 : Int) : Int) from by exact p3))
 show Code.wp _ _ _ a8 w8
 refine wp_seq ?_
 refine region_St (bf := [0, 0, 2, 6, 15, 31]) (sp := [det _ 56 _, det _ 57 _, det _ 58 _, det _ 59 _, det _ 60 _, det _ 19 _]) [io r0] mixed st8 (by kernel_rfl) ⟨r0, trivial⟩
  ⟨Ob.d fun c => r_move rfl (c.p e3),
  Ob.d fun c => r_move rfl (c.p e0),
  Ob.d fun c => r_lenS rfl Try.underlying9 (c.n 1 rfl),
  Ob.d fun c => r_add rfl (c.n 2 rfl) rfl (by omega),
  Ob.c fun c => ⟨_, _, (e_call2 rfl rfl Try.call28 (c.n 0 rfl) (c.n 3 rfl)), low_c n ((s.size : Int) + 1) _ (by omega) (by omega)⟩,
  Ob.d fun c => r_assign rfl (c.n 4 rfl), trivial⟩ ?_
 intro a9 w9 τ9 st9 f9
 obtain ⟨e4, e10, e11, e12, e13, e14, e16, e17, e18, -⟩ := f9.ks [(4, _), (10, _), (11, _), (12, _), (13, _), (14, _), (16, _), (17, _), (18, _)] ⟨e4, e10, e11, e12, e13, e14, e16, e17, e18, trivial⟩
 have e19 : get a9 19 = (.int .i64 (lowF n ((s.size : Int) + 1))) := f9.v 5 rfl
 replace r0 := f9.io 0 rfl
 clear f9
 have hlow2 := low_range n ((s.size : Int) + 1) (by omega) (by omega)
 show Code.wp _ _ _ a9 w9
 refine wp_seq ?_
 refine region_St (bf := [0, 0, 0, 0, 12, 31, 0, 0, 0, 384, 1023, 2047]) (sp := [det _ 61 _, det _ 62 _, det _ 63 _, det _ 64 _, det _ 65 _, det _ 66 _, det _ 67 _, det _ 68 _, det _ 69 _, det _ 70 _, det _ 71 _, det _ 20 _]) [io r0] mixed st9 (by kernel_rfl) ⟨r0, trivial⟩
  ⟨Ob.d fun c => r_move rfl (c.p e19),
  Ob.d fun c => r_move rfl (c.p e4),
  Ob.d fun c => r_move rfl (c.p e11),
  Ob.d fun c => r_move rfl (c.p e12),
  Ob.d fun c => r_sliceLo rfl Try.underlying22 Try.sizeOf45 (c.n 2 rfl) r0.isSl (c.n 3 rfl) (by omega) (by omega),
  Ob.c fun c => ⟨_, _, (e_call3 rfl rfl Try.call27 (c.n 0 rfl) (c.n 1 rfl) (c.n 4 rfl)), moveE_c (lowF n ((s.size : Int) + 1)) r (subV b4x11 k ((apF (s.size : Int) xs).length) 3) (((apF (s.size : Int) xs).drop k).take (((apF (s.size : Int) xs).length) - k)) _ ((c.io 0 rfl).1.sl.sub (lo := k) (hi := (apF (s.size : Int) xs).length) (by omega) (by omega)) (by omega)⟩,
  Ob.d fun c => r_move rfl (c.p e4),
  Ob.d fun c => r_move rfl (c.p e11),
  Ob.d fun c => r_move rfl (c.p e12),
  Ob.d fun c => r_sliceHi rfl Try.underlying22 Try.sizeOf45 (c.n 7 rfl) r0.isSl (c.n 8 rfl) (by omega) (by omega),
  Ob.c fun c => ⟨_, _, (e_call3 rfl rfl Try.call27 (c.n 5 rfl) (c.n 6 rfl) (c.n 9 rfl)), moveE_c (moveW (lowF n ((s.size : Int) + 1)) r (((apF (s.size : Int) xs).drop k).take (((apF (s.size : Int) xs).length) - k))) r (subV b4x11 0 k 3) (((apF (s.size : Int) xs).drop 0).take (k - 0)) _ ((c.io 0 rfl).1.sl.sub (lo := 0) (hi := k) (by omega) (by omega)) (by omega)⟩,
  Ob.d fun c => r_assign rfl (c.n 10 rfl), trivial⟩ ?_
 intro a10 w10 τ10 st10 f10
 obtain ⟨e4, e10, e11, e13, e14, e16, e17, e18, e19, -⟩ := f10.ks [(4, _), (10, _), (11, _), (13, _), (14, _), (16, _), (17, _), (18, _), (19, _)] ⟨e4, e10, e11, e13, e14, e16, e17, e18, e19, trivial⟩
 have e20 : get a10 20 = (.int .i64 (moveW (moveW (lowF n ((s.size : Int) + 1)) r (((apF (s.size : Int) xs).drop k).take (((apF (s.size : Int) xs).length) - k))) r (((apF (s.size : Int) xs).drop 0).take (k - 0)))) := f10.v 11 rfl
 replace r0 := f10.io 0 rfl
 clear f10
 replace e20 := e20.trans (int_eq (show moveW (moveW (lowF n ((s.size : Int) + 1)) r (((apF (s.size : Int) xs).drop k).take (((apF (s.size : Int) xs).length) - k))) r (((apF (s.size : Int) xs).drop 0).take (k - 0)) = (moveW (lowF n ((s.size : Int) + 1)) r (apF (s.size : Int) xs) : Int) from by exact move_halves hap (by omega) (by omega) (by omega) (by omega)))
 show Code.wp _ _ _ a10 w10
 refine wp_seq ?_
 refine region_St (bf := [0, 1, 3, 7, 15, 31, 63, 127, 255, 511, 1023, 2047, 2047, 8191, 16383, 32767, 65535, 65535, 65535, 65535, 983039, 2097151, 4194303, 8388607, 16777215, 33554431, 67108863]) (sp := [det _ 72 _, det _ 73 (.bool (true)), det _ 74 _, det _ 75 _, det _ 76 (.bool (true)), det _ 77 _, det _ 78 _, det _ 79 _, det _ 80 (.bool (true)), det _ 81 _, det _ 82 _, det _ 83 _, det _ 84 _, det _ 85 (.bool (true)), det _ 86 _, det _ 87 _, det _ 88 _, det _ 89 _, det _ 90 _, det _ 91 _, det _ 92 _, det _ 93 (.bool (true)), det _ 94 _, det _ 95 _, det _ 96 _, det _ 97 _, det _ 10 _]) [io r0] mixed st10 (by kernel_rfl) ⟨r0, trivial⟩
  ⟨Ob.d fun c => r_move rfl (c.p e14),
  Ob.d (v := (.bool (true))) fun c => Runs.isB (b := decide ((0 : Int) = 0)) (r_eql rfl (c.n 0 rfl) rfl) (by decide),
  Ob.d fun c => r_move rfl (c.n 1 rfl),
  Ob.lv 2 (Ob.d fun c => r_move rfl (c.p e16)),
  Ob.lv 2 (Ob.d (v := (.bool (true))) fun c => Runs.isB (b := decide ((0 : Int) = 0)) (r_eql rfl (c.n 3 rfl) rfl) (by decide)),
  Ob.d fun c => r_pick rfl (c.n 2 rfl) (fun _ => c.n 4 rfl) (fun h => by cases h),
  Ob.d fun c => r_move rfl (c.n 5 rfl),
  Ob.lv 6 (Ob.d fun c => r_move rfl (c.p e18)),
  Ob.lv 6 (Ob.d (v := (.bool (true))) fun c => Runs.isB (b := decide ((0 : Int) = 0)) (r_eql rfl (c.n 7 rfl) rfl) (by decide)),
  Ob.d fun c => r_pick rfl (c.n 6 rfl) (fun _ => c.n 8 rfl) (fun h => by cases h),
  Ob.d fun c => r_move rfl (c.n 9 rfl),
  Ob.lv 10 (Ob.d fun c => r_move rfl (c.p e13)),
  Ob.lv 10 (Ob.d fun c => r_move rfl (c.p e17)),
  Ob.lv 10 (Ob.d (v := (.bool (true))) fun c => Runs.isB (b := eqT (tx (appL (bs s) 0 (apF (s.size : Int) xs))) (tx (appL (bs s) 0 (apF (s.size : Int) xs)))) (r_seql rfl (c.n 11 rfl) (c.n 12 rfl)) (by exact eqT_self _)),
  Ob.d fun c => r_pick rfl (c.n 10 rfl) (fun _ => c.n 13 rfl) (fun h => by cases h),
  Ob.d fun c => r_move rfl (c.n 14 rfl),
  Ob.lv 15 (Ob.d fun c => r_move rfl (c.p e20)),
  Ob.lv 15 (Ob.d fun c => r_move rfl (c.p e19)),
  Ob.lv 15 (Ob.d fun c => r_move rfl (c.p e4)),
  Ob.lv 15 (Ob.d fun c => r_move rfl (c.p e11)),
  Ob.lv 15 (Ob.c fun c => ⟨_, _, (e_call3 rfl rfl Try.call27 (c.n 17 rfl) (c.n 18 rfl) (c.n 19 rfl)), moveE_c (lowF n ((s.size : Int) + 1)) r b4x11 (apF (s.size : Int) xs) _ (c.io 0 rfl).1.sl (by omega)⟩),
  Ob.lv 15 (Ob.d (v := (.bool (true))) fun c => Runs.isB (b := decide (moveW (lowF n ((s.size : Int) + 1)) r (apF (s.size : Int) xs) = moveW (lowF n ((s.size : Int) + 1)) r (apF (s.size : Int) xs))) (r_eql rfl (c.n 16 rfl) (c.n 20 rfl)) (by exact decide_eq_true rfl)),
  Ob.d fun c => r_pick rfl (c.n 15 rfl) (fun _ => c.n 21 rfl) (fun h => by cases h),
  Ob.d fun c => r_move rfl (c.n 22 rfl),
  Ob.lv 23 (Ob.c fun c => ⟨_, _, (e_call0 rfl rfl Try.call14), awake_c _⟩),
  Ob.d fun c => r_pick rfl (c.n 23 rfl) (fun _ => c.n 24 rfl) (fun h => by cases h),
  Ob.d fun c => r_assign rfl (c.n 25 rfl), trivial⟩ ?_
 intro a11 w11 τ11 st11 f11
 have e10 : get a11 10 = (.bool (true)) := f11.v 26 rfl
 clear f11
 show Code.wp _ _ _ a11 w11
 refine wp_ret ?_
 repeat (first | with_reducible refine then_ret ?_ | with_reducible refine block_ret ?_)
 refine ret1 (fn := Try.f11) rfl st11.defers e10 ?_
 exact ⟨rfl, st11.ext0⟩
end B
end Go.Proofs.Ytfkjmkngiiokmaa
