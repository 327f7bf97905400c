/-
  Walks, printed by a program (gen.py): LChangeBack.
-/
import Derived.Test.YtfkjmkngiiokmaaChC
import Derived.Test.YtfkjmkngiiokmaaChgL
set_option linter.unusedSimpArgs false
set_option linter.unusedVariables false
namespace Go.Proofs.Ytfkjmkngiiokmaa
namespace B
open Go.RowKit
open Srt
set_option maxRecDepth 100000 in
set_option maxHeartbeats 4000000 in
theorem changeBack_c (s : ByteArray) (v : Value) (xs : List (Int × Int × ByteArray)) (b : Int) (w : World) (hS : SlT EditE w v xs) : Calls Try.prog 6 #[(.string (s)), v, (.int .i64 (b))] w (fun e w' => e = .returned (.bool (true)) ∧ Ext none' w w') := by
 refine enter (n := 122) Try.func6 rfl rfl (Nat.le_of_ble_eq_true rfl) ?_
 intro a0 τ0 ha st0
 have e0 : get a0 0 = (.string (s)) := ha 0 _ rfl
 have e1 : get a0 1 = v := ha 1 _ rfl
 have e2 : get a0 2 = (.int .i64 (b)) := ha 2 _ rfl
 clear ha
 refine wp_seq ?_
 refine region_St (bf := [0]) (sp := [det _ 6 _]) [] mixed st0 (by kernel_rfl) trivial
  ⟨Ob.d fun c => r_assign rfl rfl, trivial⟩ ?_
 intro a1 w1 τ1 st1 f1
 obtain ⟨e0, e1, e2, -⟩ := f1.ks [(0, _), (1, _), (2, _)] ⟨e0, e1, e2, trivial⟩
 have e6 : get a1 6 = (.bool (false)) := f1.v 0 rfl
 clear f1
 show Code.wp _ _ _ a1 w1
 refine wp_seq ?_
 refine wp_seq ?_
 refine region_St (bf := [0, 1, 3]) (sp := [det _ 19 _, det _ 20 _, det _ 21 _]) [] mixed st1 (by kernel_rfl) trivial
  ⟨Ob.d fun c => r_move rfl (c.p e0),
  Ob.d fun c => r_lenS rfl Try.underlying9 (c.n 0 rfl),
  Ob.d fun c => r_gtr rfl (c.n 1 rfl) rfl, trivial⟩ ?_
 intro a2 w2 τ2 st2 f2
 obtain ⟨e0, e1, e2, e6, -⟩ := f2.ks [(0, _), (1, _), (2, _), (6, _)] ⟨e0, e1, e2, e6, trivial⟩
 have e21 : get a2 21 = (.bool (decide (200 < (s.size : Int)))) := f2.v 2 rfl
 clear f2
 show Code.wp _ _ _ a2 w2
 refine wp_cond_split (t := decide (200 < (s.size : Int))) e21 (fun hc1 => ?_) (fun hc1 => ?_)
 · try simp only [decide_eq_true_eq] at hc1
   refine wp_seq ?_
   refine region_St (bf := [0, 1]) (sp := [det _ 22 _, det _ 6 _]) [] mixed st2 (by kernel_rfl) trivial
    ⟨Ob.c fun c => ⟨_, _, (e_call0 rfl rfl Try.call14), awake_c _⟩,
    Ob.d fun c => r_assign rfl (c.n 0 rfl), trivial⟩ ?_
   intro a3 w3 τ3 st3 f3
   obtain ⟨e0, e1, e2, -⟩ := f3.ks [(0, _), (1, _), (2, _)] ⟨e0, e1, e2, trivial⟩
   have e6 : get a3 6 = (.bool (true)) := f3.v 1 rfl
   clear f3
   show Code.wp _ _ _ a3 w3
   refine wp_ret ?_
   repeat (first | with_reducible refine then_ret ?_ | with_reducible refine block_ret ?_)
   refine ret1 (fn := Try.f6) rfl st3.defers e6 ?_
   exact ⟨rfl, st3.ext0⟩
 try simp only [decide_eq_false_iff_not, Int.not_lt] at hc1
 refine wp_skip ?_
 show Code.wp _ _ _ a2 w2
 refine wp_seq ?_
 obtain ⟨hap, hez, hel⟩ := apF_ap (n := (s.size : Int)) (by omega) xs
 refine region_St (bf := [0, 1, 0, 7, 0, 31, 63]) (sp := [det _ 23 _, det _ 24 _, det _ 25 _, own _ _ _ 0 26 _, det _ 27 _, own _ _ _ 1 28 _, own _ _ _ 1 7 _]) [] mixed st2 (by kernel_rfl) trivial
  ⟨Ob.d fun c => r_move rfl (c.p e0),
  Ob.d fun c => r_lenS rfl Try.underlying9 (c.n 0 rfl),
  Ob.d fun c => r_move rfl (c.p e1),
  Ob.callOwn rfl rfl rfl (fun _ a_ _ _ c => ⟨_, _, (e_call2 rfl rfl Try.call24 (c.n 1 rfl) (c.n 2 rfl)), apartP_c (s.size : Int) v xs _ (hS.at (st2.ext.trans c.J.ext)) (by omega) (by omega)⟩),
  Ob.d fun c => r_move rfl (c.p e2),
  Ob.callOwn rfl rfl rfl (fun _ a_ _ _ c => ⟨_, _, (e_call2 rfl rfl Try.call25 (eval_tmp _ 26) (c.n 4 rfl)), turned_c _ (apF (s.size : Int) xs) b _ (c.ro 3 rfl).1.sl (by omega)⟩),
  Ob.moveT (t0 := 28) rfl rfl rfl rfl rfl (.inr rfl) (fun _ _ _ _ c => ⟨c.ro 5 rfl, rfl⟩), trivial⟩ ?_
 intro a4 w4 τ4 st4 f4
 obtain ⟨b4x26, e26⟩ : ∃ b, get a4 26 = b := ⟨_, rfl⟩
 obtain ⟨b4x7, e7⟩ : ∃ b, get a4 7 = b := ⟨_, rfl⟩
 obtain ⟨e0, e6, -⟩ := f4.ks [(0, _), (6, _)] ⟨e0, e6, trivial⟩
 have r1 : ownR EditE 45 (rotE (apF (s.size : Int) xs) b) (τ4 1) b4x7 w4 := f4.ro 6 e7 rfl
 clear f4
 show Code.wp _ _ _ a4 w4
 refine wp_seq ?_
 obtain ⟨f1, f2, f3, f4⟩ := facts6 hap (List.Perm.refl _) (by omega) (by omega) (by omega)
 have hrp := rotE_perm (apF (s.size : Int) xs) b
 have hrz := sizes_perm hrp
 have hrl := hrp.length_eq
 obtain ⟨g1, g2, g3, g4⟩ := facts6 hap hrp (by omega) (by omega) (by omega)
 refine region_St (bf := [0, 0, 3, 7, 15, 15, 31, 127]) (sp := [det _ 30 _, det _ 31 _, det _ 32 _, det _ 29 _, det _ 33 _, det _ 34 _, det _ 8 _, det _ 9 _]) [Ini.any _, io r1] mixed st4 (by kernel_rfl) ⟨trivial, r1, trivial⟩
  ⟨Ob.d fun c => r_move rfl (c.p e0),
  Ob.d fun c => r_move rfl (c.p e7),
  Ob.c fun c => ⟨_, _, (e_call2 rfl rfl Try.call15 (c.n 0 rfl) (c.n 1 rfl)), applyE_c s b4x7 (rotE (apF (s.size : Int) xs) b) _ (c.io 1 rfl).1.sl (by omega) (by omega) (by omega)⟩,
  Ob.d fun c => r_move rfl (c.n 2 rfl),
  Ob.d fun c => r_extract rfl (c.n 3 rfl) rfl,
  Ob.d fun c => r_extract rfl (c.n 3 rfl) rfl,
  Ob.d fun c => r_assign rfl (c.n 4 rfl),
  Ob.d fun c => r_assign rfl (c.n 5 rfl), trivial⟩ ?_
 intro a5 w5 τ5 st5 f5
 obtain ⟨e0, e6, e7, -⟩ := f5.ks [(0, _), (6, _), (7, _)] ⟨e0, e6, e7, trivial⟩
 have e8 : get a5 8 = (.string (applyF s (rotE (apF (s.size : Int) xs) b))) := f5.v 6 rfl
 have e9 : get a5 9 = (.int .i64 (mayEd (s.size : Int) (rotE (apF (s.size : Int) xs) b))) := f5.v 7 rfl
 replace r1 := f5.io 1 rfl
 clear f5
 replace e8 := e8.trans (congrArg Value.string (show applyF s (rotE (apF (s.size : Int) xs) b) = (tx (appL (bs s) 0 (apF (s.size : Int) xs))) from by exact g2))
 replace e9 := e9.trans (int_eq (show mayEd (s.size : Int) (rotE (apF (s.size : Int) xs) b) = ((0 : Int) : Int) from by exact g1))
 have hB := back_facts hap
 have hTs := tx_small hap
 have hB2 := hB.sz
 have hB3 := hB.len
 have hB4 := hB.sz2
 have hB5 := hB.len2
 obtain ⟨k1, k2, k3, k4⟩ := facts6 hB.ap (List.Perm.refl _) (by omega) (by omega) (by omega)
 show Code.wp _ _ _ a5 w5
 refine wp_seq ?_
 refine region_St (bf := [0, 0, 3, 7, 15, 15, 31, 127]) (sp := [det _ 36 _, det _ 37 _, tup _ _ _ 0 38 _ _, tup _ _ _ 0 35 _ _, own _ _ _ 0 39 _, det _ 40 _, own _ _ _ 0 10 _, det _ 11 _]) [Ini.any _, io r1] mixed st5 (by kernel_rfl) ⟨trivial, r1, trivial⟩
  ⟨Ob.d fun c => r_move rfl (c.p e0),
  Ob.d fun c => r_move rfl (c.p e7),
  Ob.callTup rfl rfl rfl (fun _ a_ _ _ c => ⟨_, _, (e_call2 rfl rfl Try.call17 (c.n 0 rfl) (c.n 1 rfl)), backE_c s b4x7 (rotE (apF (s.size : Int) xs) b) _ (c.io 1 rfl).1.sl (by omega) (by omega) (by omega)⟩),
  Ob.moveT (t0 := 38) rfl rfl rfl rfl rfl (.inl rfl) (fun _ _ _ _ c => ⟨c.rtup 2 rfl rfl (by kernel_rfl), rfl⟩),
  Ob.part0 (t0 := 35) (k := (.int .i64 (mayEd (s.size : Int) (rotE (apF (s.size : Int) xs) b)))) rfl rfl rfl rfl (fun _ _ _ _ c => c.rtup 3 rfl rfl (by kernel_rfl)),
  Ob.d fun c => c.part1 3 rfl rfl rfl,
  Ob.moveT (t0 := 39) rfl rfl rfl rfl rfl (.inr rfl) (fun _ _ _ _ c => ⟨c.ro 4 rfl, rfl⟩),
  Ob.d fun c => r_assign rfl (c.n 5 rfl), trivial⟩ ?_
 intro a6 w6 τ6 st6 f6
 obtain ⟨b6x10, e10⟩ : ∃ b, get a6 10 = b := ⟨_, rfl⟩
 obtain ⟨e0, e6, e7, e8, e9, -⟩ := f6.ks [(0, _), (6, _), (7, _), (8, _), (9, _)] ⟨e0, e6, e7, e8, e9, trivial⟩
 have e11 : get a6 11 = (.int .i64 (mayEd (s.size : Int) (rotE (apF (s.size : Int) xs) b))) := f6.v 7 rfl
 have r0 : ownR EditE 45 (backF s (rotE (apF (s.size : Int) xs) b)) (τ6 0) b6x10 w6 := f6.ro 6 e10 rfl
 replace r1 := f6.io 1 rfl
 clear f6
 replace r0 := r0.cast (show (backL s (apF (s.size : Int) xs)) = backF s (rotE (apF (s.size : Int) xs) b) from by exact g3.symm)
 replace e11 := e11.trans (int_eq (show mayEd (s.size : Int) (rotE (apF (s.size : Int) xs) b) = ((0 : Int) : Int) from by exact g1))
 show Code.wp _ _ _ a6 w6
 refine wp_seq ?_
 refine region_St (bf := [0, 0, 3, 7, 15, 15, 31, 127]) (sp := [det _ 42 _, det _ 43 _, det _ 44 _, det _ 41 _, det _ 45 _, det _ 46 _, det _ 12 _, det _ 13 _]) [io r0, io r1] mixed st6 (by kernel_rfl) ⟨r0, r1, trivial⟩
  ⟨Ob.d fun c => r_move rfl (c.p e8),
  Ob.d fun c => r_move rfl (c.p e10),
  Ob.c fun c => ⟨_, _, (e_call2 rfl rfl Try.call15 (c.n 0 rfl) (c.n 1 rfl)), applyE_c (tx (appL (bs s) 0 (apF (s.size : Int) xs))) b6x10 (backL s (apF (s.size : Int) xs)) _ (c.io 0 rfl).1.sl (by omega) (by omega) (by omega)⟩,
  Ob.d fun c => r_move rfl (c.n 2 rfl),
  Ob.d fun c => r_extract rfl (c.n 3 rfl) rfl,
  Ob.d fun c => r_extract rfl (c.n 3 rfl) rfl,
  Ob.d fun c => r_assign rfl (c.n 4 rfl),
  Ob.d fun c => r_assign rfl (c.n 5 rfl), trivial⟩ ?_
 intro a7 w7 τ7 st7 f7
 obtain ⟨e0, e6, e7, e8, e9, e10, e11, -⟩ := f7.ks [(0, _), (6, _), (7, _), (8, _), (9, _), (10, _), (11, _)] ⟨e0, e6, e7, e8, e9, e10, e11, trivial⟩
 have e12 : get a7 12 = (.string (applyF (tx (appL (bs s) 0 (apF (s.size : Int) xs))) (backL s (apF (s.size : Int) xs)))) := f7.v 6 rfl
 have e13 : get a7 13 = (.int .i64 (mayEd ((tx (appL (bs s) 0 (apF (s.size : Int) xs))).size : Int) (backL s (apF (s.size : Int) xs)))) := f7.v 7 rfl
 replace r0 := f7.io 0 rfl
 replace r1 := f7.io 1 rfl
 clear f7
 replace e12 := e12.trans (congrArg Value.string (show applyF (tx (appL (bs s) 0 (apF (s.size : Int) xs))) (backL s (apF (s.size : Int) xs)) = s from by rw [k2, hB.back, tx_bs]))
 replace e13 := e13.trans (int_eq (show mayEd ((tx (appL (bs s) 0 (apF (s.size : Int) xs))).size : Int) (backL s (apF (s.size : Int) xs)) = ((0 : Int) : Int) from by exact k1))
 show Code.wp _ _ _ a7 w7
 refine wp_seq ?_
 refine region_St (bf := [0, 0, 3, 7, 15, 15, 31, 127]) (sp := [det _ 48 _, det _ 49 _, tup _ _ _ 2 50 _ _, tup _ _ _ 2 47 _ _, own _ _ _ 2 51 _, det _ 52 _, own _ _ _ 2 14 _, det _ 15 _]) [io r0, io r1] mixed st7 (by kernel_rfl) ⟨r0, r1, trivial⟩
  ⟨Ob.d fun c => r_move rfl (c.p e8),
  Ob.d fun c => r_move rfl (c.p e10),
  Ob.callTup rfl rfl rfl (fun _ a_ _ _ c => ⟨_, _, (e_call2 rfl rfl Try.call17 (c.n 0 rfl) (c.n 1 rfl)), backE_c (tx (appL (bs s) 0 (apF (s.size : Int) xs))) b6x10 (backL s (apF (s.size : Int) xs)) _ (c.io 0 rfl).1.sl (by omega) (by omega) (by omega)⟩),
  Ob.moveT (t0 := 50) rfl rfl rfl rfl rfl (.inl rfl) (fun _ _ _ _ c => ⟨c.rtup 2 rfl rfl (by kernel_rfl), rfl⟩),
  Ob.part0 (t0 := 47) (k := (.int .i64 (mayEd ((tx (appL (bs s) 0 (apF (s.size : Int) xs))).size : Int) (backL s (apF (s.size : Int) xs))))) rfl rfl rfl rfl (fun _ _ _ _ c => c.rtup 3 rfl rfl (by kernel_rfl)),
  Ob.d fun c => c.part1 3 rfl rfl rfl,
  Ob.moveT (t0 := 51) rfl rfl rfl rfl rfl (.inr rfl) (fun _ _ _ _ c => ⟨c.ro 4 rfl, rfl⟩),
  Ob.d fun c => r_assign rfl (c.n 5 rfl), trivial⟩ ?_
 intro a8 w8 τ8 st8 f8
 obtain ⟨b8x14, e14⟩ : ∃ b, get a8 14 = b := ⟨_, rfl⟩
 obtain ⟨e0, e6, e7, e8, e9, e10, e11, e12, e13, -⟩ := f8.ks [(0, _), (6, _), (7, _), (8, _), (9, _), (10, _), (11, _), (12, _), (13, _)] ⟨e0, e6, e7, e8, e9, e10, e11, e12, e13, trivial⟩
 have e15 : get a8 15 = (.int .i64 (mayEd ((tx (appL (bs s) 0 (apF (s.size : Int) xs))).size : Int) (backL s (apF (s.size : Int) xs)))) := f8.v 7 rfl
 replace r0 := f8.io 0 rfl
 replace r1 := f8.io 1 rfl
 have r2 : ownR EditE 45 (backF (tx (appL (bs s) 0 (apF (s.size : Int) xs))) (backL s (apF (s.size : Int) xs))) (τ8 2) b8x14 w8 := f8.ro 6 e14 rfl
 clear f8
 replace r2 := r2.cast (show backL (tx (appL (bs s) 0 (apF (s.size : Int) xs))) (backL s (apF (s.size : Int) xs)) = backF (tx (appL (bs s) 0 (apF (s.size : Int) xs))) (backL s (apF (s.size : Int) xs)) from by exact k3.symm)
 replace e15 := e15.trans (int_eq (show mayEd ((tx (appL (bs s) 0 (apF (s.size : Int) xs))).size : Int) (backL s (apF (s.size : Int) xs)) = ((0 : Int) : Int) from by exact k1))
 obtain ⟨l1, l2, l3, l4⟩ := facts6 hB.ap2 (List.Perm.refl _) (by omega) (by omega) (by omega)
 show Code.wp _ _ _ a8 w8
 refine wp_seq ?_
 refine wp_seq ?_
 refine region_St (bf := [0, 1, 3, 7, 15, 31, 63, 127, 255, 511, 1023, 2047, 4095, 8191, 16383, 32767, 32767, 131071, 262143, 524287, 1048575, 2097151, 1048575, 5242879, 16777215, 33554431, 67108863, 134217727, 268435455, 134217727, 671088639, 2147483647, 4294967295]) (sp := [det _ 53 _, det _ 54 (.bool (false)), det _ 55 _, det _ 56 _, det _ 57 (.bool (false)), det _ 58 _, det _ 59 _, det _ 60 _, det _ 61 (.bool (false)), det _ 62 _, det _ 63 _, det _ 64 _, det _ 65 (.bool (false)), det _ 66 _, det _ 67 _, det _ 68 _, det _ 69 _, det _ 70 (.bool (false)), det _ 71 _, det _ 72 _, det _ 73 _, det _ 74 _, det _ 75 _, det _ 76 _, det _ 77 (.bool (false)), det _ 78 _, det _ 79 _, det _ 80 _, det _ 81 _, det _ 82 _, det _ 83 _, det _ 84 (.bool (false)), det _ 85 _]) [io r0, io r1, io r2] mixed st8 (by kernel_rfl) ⟨r0, r1, r2, trivial⟩
  ⟨Ob.d fun c => r_move rfl (c.p e9),
  Ob.d (v := (.bool (false))) fun c => Runs.isB (b := !decide ((0 : Int) = 0)) (r_neq rfl (c.n 0 rfl) rfl) (by decide),
  Ob.d fun c => r_move rfl (c.n 1 rfl),
  Ob.lv 2 (Ob.d fun c => r_move rfl (c.p e11)),
  Ob.lv 2 (Ob.d (v := (.bool (false))) fun c => Runs.isB (b := !decide ((0 : Int) = 0)) (r_neq rfl (c.n 3 rfl) rfl) (by decide)),
  Ob.d fun c => r_pick rfl (c.n 2 rfl) (fun h => by cases h) (fun _ => c.n 4 rfl),
  Ob.d fun c => r_move rfl (c.n 5 rfl),
  Ob.lv 6 (Ob.d fun c => r_move rfl (c.p e13)),
  Ob.lv 6 (Ob.d (v := (.bool (false))) fun c => Runs.isB (b := !decide ((0 : Int) = 0)) (r_neq rfl (c.n 7 rfl) rfl) (by decide)),
  Ob.d fun c => r_pick rfl (c.n 6 rfl) (fun h => by cases h) (fun _ => c.n 8 rfl),
  Ob.d fun c => r_move rfl (c.n 9 rfl),
  Ob.lv 10 (Ob.d fun c => r_move rfl (c.p e15)),
  Ob.lv 10 (Ob.d (v := (.bool (false))) fun c => Runs.isB (b := !decide ((0 : Int) = 0)) (r_neq rfl (c.n 11 rfl) rfl) (by decide)),
  Ob.d fun c => r_pick rfl (c.n 10 rfl) (fun h => by cases h) (fun _ => c.n 12 rfl),
  Ob.d fun c => r_move rfl (c.n 13 rfl),
  Ob.lv 14 (Ob.d fun c => r_move rfl (c.p e12)),
  Ob.lv 14 (Ob.d fun c => r_move rfl (c.p e0)),
  Ob.lv 14 (Ob.d (v := (.bool (false))) fun c => Runs.isB (b := !(eqT s s)) (r_sneq rfl (c.n 15 rfl) (c.n 16 rfl)) (by rw [eqT_self]; rfl)),
  Ob.d fun c => r_pick rfl (c.n 14 rfl) (fun h => by cases h) (fun _ => c.n 17 rfl),
  Ob.d fun c => r_move rfl (c.n 18 rfl),
  Ob.lv 19 (Ob.d fun c => r_move rfl (c.p e10)),
  Ob.lv 19 (Ob.d fun c => r_len rfl Try.underlying22 (c.n 20 rfl) r0.isSl),
  Ob.lv 19 (Ob.d fun c => r_move rfl (c.p e7)),
  Ob.lv 19 (Ob.d fun c => r_len rfl Try.underlying22 (c.n 22 rfl) r1.isSl),
  Ob.lv 19 (Ob.d (v := (.bool (false))) fun c => Runs.isB (b := decide (((rotE (apF (s.size : Int) xs) b).length : Int) < ((backL s (apF (s.size : Int) xs)).length : Int))) (r_gtr rfl (c.n 21 rfl) (c.n 23 rfl)) (by exact decide_eq_false (by omega))),
  Ob.d fun c => r_pick rfl (c.n 19 rfl) (fun h => by cases h) (fun _ => c.n 24 rfl),
  Ob.d fun c => r_move rfl (c.n 25 rfl),
  Ob.lv 26 (Ob.d fun c => r_move rfl (c.p e14)),
  Ob.lv 26 (Ob.d fun c => r_len rfl Try.underlying22 (c.n 27 rfl) r2.isSl),
  Ob.lv 26 (Ob.d fun c => r_move rfl (c.p e10)),
  Ob.lv 26 (Ob.d fun c => r_len rfl Try.underlying22 (c.n 29 rfl) r0.isSl),
  Ob.lv 26 (Ob.d (v := (.bool (false))) fun c => Runs.isB (b := !decide (((backL (tx (appL (bs s) 0 (apF (s.size : Int) xs))) (backL s (apF (s.size : Int) xs))).length : Int) = ((backL s (apF (s.size : Int) xs)).length : Int))) (r_neq rfl (c.n 28 rfl) (c.n 30 rfl)) (by rw [hB5]; simp)),
  Ob.d fun c => r_pick rfl (c.n 26 rfl) (fun h => by cases h) (fun _ => c.n 31 rfl), trivial⟩ ?_
 intro a9 w9 τ9 st9 f9
 obtain ⟨e0, e6, e8, e10, e14, -⟩ := f9.ks [(0, _), (6, _), (8, _), (10, _), (14, _)] ⟨e0, e6, e8, e10, e14, trivial⟩
 have e85 : get a9 85 = (.bool (false)) := f9.v 32 rfl
 replace r0 := f9.io 0 rfl
 replace r2 := f9.io 2 rfl
 clear f9
 show Code.wp _ _ _ a9 w9
 refine wp_cond_false e85 ?_
 refine wp_skip ?_
 show Code.wp _ _ _ a9 w9
 refine wp_seq ?_
 refine wp_seq ?_
 refine region_St (bf := [0]) (sp := [det _ 16 _]) [io r0, Ini.any _, io r2] mixed st9 (by kernel_rfl) ⟨r0, trivial, r2, trivial⟩
  ⟨Ob.d fun c => r_assign rfl rfl, trivial⟩ ?_
 intro a10 w10 τ10 st10 f10
 obtain ⟨e0, e6, e8, e10, e14, -⟩ := f10.ks [(0, _), (6, _), (8, _), (10, _), (14, _)] ⟨e0, e6, e8, e10, e14, trivial⟩
 have e16 : get a10 16 = (.int .i64 (1)) := f10.v 0 rfl
 replace r0 := f10.io 0 rfl
 replace r2 := f10.io 2 rfl
 clear f10
 show Code.wp _ _ _ a10 w10
 refine wp_block ?_
 refine wp_loop (fun a_ w_ => ∃ (i : Nat) (τ : Nat → Foot), (1 ≤ i) ∧
      St (Nw w) w 122 a_ w_ τ ∧
      get a_ 16 = (.int .i64 ((i : Int))) ∧
      get a_ 0 = (.string (s)) ∧
      get a_ 8 = (.string ((tx (appL (bs s) 0 (apF (s.size : Int) xs))))) ∧
      get a_ 10 = b6x10 ∧
      get a_ 14 = b8x14 ∧
      ownR EditE 45 ((backL s (apF (s.size : Int) xs))) (τ 0) b6x10 w_ ∧
      ownR EditE 45 (backL (tx (appL (bs s) 0 (apF (s.size : Int) xs))) (backL s (apF (s.size : Int) xs))) (τ 2) b8x14 w_) (fun a_ _ => (backL s (apF (s.size : Int) xs)).length + 1 - (intOf (get a_ 16)).toNat) ?_ ?_
 · refine ⟨1, τ10, ?_, st10, (e16.trans (int_eq (by omega))), e0, e8, e10, e14, r0, r2⟩
   · omega
 intro a11 w11 hI
 obtain ⟨i, τ11, q0, st11, e16, e0, e8, e10, e14, r0, r2⟩ := hI
 have m16 := e16
 refine wp_seq ?_
 refine wp_seq ?_
 refine region_St (bf := [0, 0, 2, 7]) (sp := [det _ 86 _, det _ 87 _, det _ 88 _, det _ 89 _]) [io r0, Ini.any _, io r2] mixed st11 (by kernel_rfl) ⟨r0, trivial, r2, trivial⟩
  ⟨Ob.d fun c => r_move rfl (c.p e16),
  Ob.d fun c => r_move rfl (c.p e10),
  Ob.d fun c => r_len rfl Try.underlying22 (c.n 1 rfl) r0.isSl,
  Ob.d fun c => r_lss rfl (c.n 0 rfl) (c.n 2 rfl), trivial⟩ ?_
 intro a12 w12 τ12 st12 f12
 obtain ⟨e0, e8, e10, e14, e16, -⟩ := f12.ks [(0, _), (8, _), (10, _), (14, _), (16, _)] ⟨e0, e8, e10, e14, e16, trivial⟩
 have e89 : get a12 89 = (.bool (decide ((i : Int) < ((backL s (apF (s.size : Int) xs)).length : Int)))) := f12.v 3 rfl
 replace r0 := f12.io 0 rfl
 replace r2 := f12.io 2 rfl
 clear f12
 show Code.wp _ _ _ a12 w12
 refine wp_cond_split (t := decide ((i : Int) < ((backL s (apF (s.size : Int) xs)).length : Int))) e89 (fun hc3 => ?_) (fun hc3 => ?_)
 · try simp only [decide_eq_true_eq] at hc3
   refine wp_skip ?_
   show Code.wp _ _ _ a12 w12
   refine wp_seq ?_
   refine wp_block ?_
   refine wp_seq ?_
   refine region_St (bf := [0, 0, 3, 7, 15, 31, 0, 0, 128, 448, 960, 1984, 4032, 8191]) (sp := [det _ 92 _, det _ 93 _, det _ 94 _, det _ 95 _, det _ 96 _, det _ 97 _, det _ 98 _, det _ 99 _, det _ 100 _, det _ 101 _, det _ 102 _, det _ 103 _, det _ 104 _, det _ 105 (.bool (false))]) [io r0, Ini.any _, io r2] mixed st12 (by kernel_rfl) ⟨r0, trivial, r2, trivial⟩
    ⟨Ob.d fun c => r_move rfl (c.p e10),
    Ob.d fun c => r_move rfl (c.p e16),
    Ob.d fun c => r_indexAddr rfl Try.underlying22 Try.sizeOf45 (c.n 0 rfl) r0.isSl (c.n 1 rfl) (by omega) (by omega),
    Ob.d fun c => r_fieldAddr rfl Try.underlying45 rfl rfl Try.sizeOf43 (c.n 2 rfl),
    Ob.d fun c => r_fieldAddr rfl Try.underlying43 rfl rfl Try.sizeOf3 (c.n 3 rfl),
    Ob.d fun c => r_load1 rfl Try.isAgg3 (c.n 4 rfl) (by have h_ := ((c.io 0 rfl).1.sl).elem (j := 0) (nth_some (i := (i : Int)) (by omega) (by omega)) rfl; rw [add_add] at h_; rw [add_add, add_add]; exact h_),
    Ob.d fun c => r_move rfl (c.p e10),
    Ob.d fun c => r_move rfl (c.p e16),
    Ob.d fun c => r_sub rfl (c.n 7 rfl) rfl (by omega),
    Ob.d fun c => r_indexAddr rfl Try.underlying22 Try.sizeOf45 (c.n 6 rfl) r0.isSl (c.n 8 rfl) (by omega) (by omega),
    Ob.d fun c => r_fieldAddr rfl Try.underlying45 rfl rfl Try.sizeOf43 (c.n 9 rfl),
    Ob.d fun c => r_fieldAddr rfl Try.underlying43 rfl rfl Try.sizeOf3 (c.n 10 rfl),
    Ob.d fun c => r_load1 rfl Try.isAgg3 (c.n 11 rfl) (by have h_ := ((c.io 0 rfl).1.sl).elem (j := 1) (nth_some (i := (i : Int) - 1) (by omega) (by omega)) rfl; rw [add_add] at h_; rw [add_add, add_add]; exact h_),
    Ob.d (v := (.bool (false))) fun c => Runs.isB (b := decide ((nth (backL s (apF (s.size : Int) xs)) ((i : Int))).1 ≤ (nth (backL s (apF (s.size : Int) xs)) ((i : Int) - 1)).2.1)) (r_leq rfl (c.n 5 rfl) (c.n 12 rfl)) (by exact decide_eq_false (by have h_ := gaps_at hB.gaps q0 (i := i) (by omega); omega)), trivial⟩ ?_
   intro a13 w13 τ13 st13 f13
   obtain ⟨e0, e8, e10, e14, e16, e89, -⟩ := f13.ks [(0, _), (8, _), (10, _), (14, _), (16, _), (89, _)] ⟨e0, e8, e10, e14, e16, e89, trivial⟩
   have e105 : get a13 105 = (.bool (false)) := f13.v 13 rfl
   replace r0 := f13.io 0 rfl
   replace r2 := f13.io 2 rfl
   clear f13
   show Code.wp _ _ _ a13 w13
   refine wp_cond_false e105 ?_
   refine wp_skip ?_
   show _
   show Code.wp _ _ _ a13 w13
   refine region_St (bf := [0, 1, 3]) (sp := [det _ 90 _, det _ 91 _, det _ 16 _]) [io r0, Ini.any _, io r2] mixed st13 (by kernel_rfl) ⟨r0, trivial, r2, trivial⟩
    ⟨Ob.d fun c => r_move rfl (c.p e16),
    Ob.d fun c => r_add rfl (c.n 0 rfl) rfl (by omega),
    Ob.d fun c => r_assign rfl (c.n 1 rfl), trivial⟩ ?_
   intro a14 w14 τ14 st14 f14
   obtain ⟨e0, e8, e10, e14, e89, e105, -⟩ := f14.ks [(0, _), (8, _), (10, _), (14, _), (89, _), (105, _)] ⟨e0, e8, e10, e14, e89, e105, trivial⟩
   have e16 : get a14 16 = (.int .i64 ((i : Int) + 1)) := f14.v 2 rfl
   replace r0 := f14.io 0 rfl
   replace r2 := f14.io 2 rfl
   clear f14
   refine ⟨⟨i + 1, τ14, ?_, st14, (e16.trans (int_eq (by omega))), e0, e8, e10, e14, r0, r2⟩, ?_⟩
   · omega
   · simp only [m16, e16, intOf]; omega
 try simp only [decide_eq_false_iff_not, Int.not_lt] at hc3
 refine wp_exit ?_
 repeat (with_reducible refine then_exit ?_)
 refine exit_here ?_
 show Code.wp _ _ _ a12 w12
 refine wp_seq ?_
 refine region_St (bf := [0, 0, 3, 7, 15, 15, 31, 127]) (sp := [det _ 107 _, det _ 108 _, det _ 109 _, det _ 106 _, det _ 110 _, det _ 111 _, det _ 17 _, det _ 18 _]) [io r0, Ini.any _, io r2] mixed st12 (by kernel_rfl) ⟨r0, trivial, r2, trivial⟩
  ⟨Ob.d fun c => r_move rfl (c.p e0),
  Ob.d fun c => r_move rfl (c.p e14),
  Ob.c fun c => ⟨_, _, (e_call2 rfl rfl Try.call15 (c.n 0 rfl) (c.n 1 rfl)), applyE_c s b8x14 (backL (tx (appL (bs s) 0 (apF (s.size : Int) xs))) (backL s (apF (s.size : Int) xs))) _ (c.io 2 rfl).1.sl (by omega) (by omega) (by omega)⟩,
  Ob.d fun c => r_move rfl (c.n 2 rfl),
  Ob.d fun c => r_extract rfl (c.n 3 rfl) rfl,
  Ob.d fun c => r_extract rfl (c.n 3 rfl) rfl,
  Ob.d fun c => r_assign rfl (c.n 4 rfl),
  Ob.d fun c => r_assign rfl (c.n 5 rfl), trivial⟩ ?_
 intro a15 w15 τ15 st15 f15
 obtain ⟨e8, -⟩ := f15.ks [(8, _)] ⟨e8, trivial⟩
 have e17 : get a15 17 = (.string (applyF s (backL (tx (appL (bs s) 0 (apF (s.size : Int) xs))) (backL s (apF (s.size : Int) xs))))) := f15.v 6 rfl
 have e18 : get a15 18 = (.int .i64 (mayEd (s.size : Int) (backL (tx (appL (bs s) 0 (apF (s.size : Int) xs))) (backL s (apF (s.size : Int) xs))))) := f15.v 7 rfl
 clear f15
 replace e17 := e17.trans (congrArg Value.string (show applyF s (backL (tx (appL (bs s) 0 (apF (s.size : Int) xs))) (backL s (apF (s.size : Int) xs))) = (tx (appL (bs s) 0 (apF (s.size : Int) xs))) from by rw [l2, hB.back2, tx_bs]))
 replace e18 := e18.trans (int_eq (show mayEd (s.size : Int) (backL (tx (appL (bs s) 0 (apF (s.size : Int) xs))) (backL s (apF (s.size : Int) xs))) = ((0 : Int) : Int) from by exact l1))
 show Code.wp _ _ _ a15 w15
 refine wp_seq ?_
 refine region_St (bf := [0, 1, 3, 7, 7, 31, 63, 127, 255, 511, 1023]) (sp := [det _ 112 _, det _ 113 _, det _ 114 _, gdet _ 115 _ _, gdet _ 116 _ _, gdet _ 117 _ _, det _ 118 _, det _ 119 _, gdet _ 120 _ _, det _ 121 _, det _ 6 _]) [] mixed st15 (by kernel_rfl) trivial
  ⟨Ob.d fun c => r_move rfl (c.p e18),
  Ob.d fun c => r_eql rfl (c.n 0 rfl) rfl,
  Ob.d fun c => r_move rfl (c.n 1 rfl),
  Ob.g 2 true rfl fun c hpc => r_move rfl (c.p e17),
  Ob.g 2 true rfl fun c hpc => r_move rfl (c.p e8),
  Ob.g 2 true rfl fun c hpc => r_seql rfl (c.m 3 rfl hpc) (c.m 4 rfl hpc),
  Ob.d fun c => r_and rfl (c.n 2 rfl) (fun h => c.m 5 rfl h),
  Ob.d fun c => r_move rfl (c.n 6 rfl),
  Ob.gc 7 true rfl fun c hpc => ⟨_, _, (e_call0 rfl rfl Try.call14), awake_c _⟩,
  Ob.d fun c => r_and rfl (c.n 7 rfl) (fun h => c.m 8 rfl h),
  Ob.d fun c => r_assign rfl (c.n 9 rfl), trivial⟩ ?_
 intro a16 w16 τ16 st16 f16
 have e6 : get a16 6 = (.bool (((decide ((0 : Int) = 0)) && (eqT (tx (appL (bs s) 0 (apF (s.size : Int) xs))) (tx (appL (bs s) 0 (apF (s.size : Int) xs))))) && true)) := f16.v 10 rfl
 clear f16
 show Code.wp _ _ _ a16 w16
 refine wp_ret ?_
 repeat (first | with_reducible refine then_ret ?_ | with_reducible refine block_ret ?_)
 refine ret1 (fn := Try.f6) rfl st16.defers e6 ?_
 exact ⟨congrArg _ (congrArg _ (show (((decide ((0 : Int) = 0)) && (eqT (tx (appL (bs s) 0 (apF (s.size : Int) xs))) (tx (appL (bs s) 0 (apF (s.size : Int) xs))))) && true) = true from by simp [eqT_self])), st16.ext0⟩
end B
end Go.Proofs.Ytfkjmkngiiokmaa
