/-
  Walks, printed by a program (gen.py): LChangeApart.
-/
import Derived.Test.YtfkjmkngiiokmaaChC
import Derived.Test.YtfkjmkngiiokmaaChgL
set_option linter.unusedSimpArgs false
set_option linter.unusedVariables false
namespace Go.Proofs.Ytfkjmkngiiokmaa
namespace B
open Go.RowKit
open Srt
set_option maxRecDepth 100000 in
set_option maxHeartbeats 4000000 in
theorem changeApart_c (s : ByteArray) (v : Value) (xs : List (Int × Int × ByteArray)) (b : Int) (w : World) (hS : SlT EditE w v xs) : Calls Try.prog 4 #[(.string (s)), v, (.int .i64 (b))] w (fun e w' => e = .returned (.bool (true)) ∧ Ext none' w w') := by
 refine enter (n := 86) Try.func4 rfl rfl (Nat.le_of_ble_eq_true rfl) ?_
 intro a0 τ0 ha st0
 have e0 : get a0 0 = (.string (s)) := ha 0 _ rfl
 have e1 : get a0 1 = v := ha 1 _ rfl
 have e2 : get a0 2 = (.int .i64 (b)) := ha 2 _ rfl
 clear ha
 refine wp_seq ?_
 refine region_St (bf := [0]) (sp := [det _ 6 _]) [] mixed st0 (by kernel_rfl) trivial
  ⟨Ob.d fun c => r_assign rfl rfl, trivial⟩ ?_
 intro a1 w1 τ1 st1 f1
 obtain ⟨e0, e1, e2, -⟩ := f1.ks [(0, _), (1, _), (2, _)] ⟨e0, e1, e2, trivial⟩
 have e6 : get a1 6 = (.bool (false)) := f1.v 0 rfl
 clear f1
 show Code.wp _ _ _ a1 w1
 refine wp_seq ?_
 refine wp_seq ?_
 refine region_St (bf := [0, 1, 3]) (sp := [det _ 16 _, det _ 17 _, det _ 18 _]) [] mixed st1 (by kernel_rfl) trivial
  ⟨Ob.d fun c => r_move rfl (c.p e0),
  Ob.d fun c => r_lenS rfl Try.underlying9 (c.n 0 rfl),
  Ob.d fun c => r_gtr rfl (c.n 1 rfl) rfl, trivial⟩ ?_
 intro a2 w2 τ2 st2 f2
 obtain ⟨e0, e1, e2, e6, -⟩ := f2.ks [(0, _), (1, _), (2, _), (6, _)] ⟨e0, e1, e2, e6, trivial⟩
 have e18 : get a2 18 = (.bool (decide (200 < (s.size : Int)))) := f2.v 2 rfl
 clear f2
 show Code.wp _ _ _ a2 w2
 refine wp_cond_split (t := decide (200 < (s.size : Int))) e18 (fun hc1 => ?_) (fun hc1 => ?_)
 · try simp only [decide_eq_true_eq] at hc1
   refine wp_seq ?_
   refine region_St (bf := [0, 1]) (sp := [det _ 19 _, det _ 6 _]) [] mixed st2 (by kernel_rfl) trivial
    ⟨Ob.c fun c => ⟨_, _, (e_call0 rfl rfl Try.call14), awake_c _⟩,
    Ob.d fun c => r_assign rfl (c.n 0 rfl), trivial⟩ ?_
   intro a3 w3 τ3 st3 f3
   obtain ⟨e0, e1, e2, -⟩ := f3.ks [(0, _), (1, _), (2, _)] ⟨e0, e1, e2, trivial⟩
   have e6 : get a3 6 = (.bool (true)) := f3.v 1 rfl
   clear f3
   show Code.wp _ _ _ a3 w3
   refine wp_ret ?_
   repeat (first | with_reducible refine then_ret ?_ | with_reducible refine block_ret ?_)
   refine ret1 (fn := Try.f4) rfl st3.defers e6 ?_
   exact ⟨rfl, st3.ext0⟩
 try simp only [decide_eq_false_iff_not, Int.not_lt] at hc1
 refine wp_skip ?_
 show Code.wp _ _ _ a2 w2
 refine wp_seq ?_
 refine region_St (bf := [0, 1, 0, 7, 15]) (sp := [det _ 20 _, det _ 21 _, det _ 22 _, own _ _ _ 0 23 _, own _ _ _ 0 7 _]) [] mixed st2 (by kernel_rfl) trivial
  ⟨Ob.d fun c => r_move rfl (c.p e0),
  Ob.d fun c => r_lenS rfl Try.underlying9 (c.n 0 rfl),
  Ob.d fun c => r_move rfl (c.p e1),
  Ob.callOwn rfl rfl rfl (fun _ a_ _ _ c => ⟨_, _, (e_call2 rfl rfl Try.call24 (c.n 1 rfl) (c.n 2 rfl)), apartP_c (s.size : Int) v xs _ (hS.at (st2.ext.trans c.J.ext)) (by omega) (by omega)⟩),
  Ob.moveT (t0 := 23) rfl rfl rfl rfl rfl (.inr rfl) (fun _ _ _ _ c => ⟨c.ro 3 rfl, rfl⟩), trivial⟩ ?_
 intro a4 w4 τ4 st4 f4
 obtain ⟨b4x7, e7⟩ : ∃ b, get a4 7 = b := ⟨_, rfl⟩
 obtain ⟨e0, e2, e6, -⟩ := f4.ks [(0, _), (2, _), (6, _)] ⟨e0, e2, e6, trivial⟩
 have r0 : ownR EditE 45 (apF (s.size : Int) xs) (τ4 0) b4x7 w4 := f4.ro 4 e7 rfl
 clear f4
 obtain ⟨hap, hez, hel⟩ := apF_ap (n := (s.size : Int)) (by omega) xs
 obtain ⟨f1, f2, f3, f4⟩ := facts6 hap (List.Perm.refl _) (by omega) (by omega) (by omega)
 have hrp := rotE_perm (apF (s.size : Int) xs) b
 have hrz := sizes_perm hrp
 have hrl := hrp.length_eq
 obtain ⟨g1, g2, g3, g4⟩ := facts6 hap hrp (by omega) (by omega) (by omega)
 show Code.wp _ _ _ a4 w4
 refine wp_seq ?_
 refine region_St (bf := [0, 0, 0, 6, 15, 31, 63, 63, 127, 511]) (sp := [det _ 25 _, det _ 26 _, det _ 27 _, own _ _ _ 1 28 _, det _ 29 _, det _ 24 _, det _ 30 _, det _ 31 _, det _ 8 _, det _ 9 _]) [io r0] mixed st4 (by kernel_rfl) ⟨r0, trivial⟩
  ⟨Ob.d fun c => r_move rfl (c.p e0),
  Ob.d fun c => r_move rfl (c.p e7),
  Ob.d fun c => r_move rfl (c.p e2),
  Ob.callOwn rfl rfl rfl (fun _ a_ _ _ c => ⟨_, _, (e_call2 rfl rfl Try.call25 (c.n 1 rfl) (c.n 2 rfl)), turned_c b4x7 (apF (s.size : Int) xs) b _ (c.io 0 rfl).1.sl (by omega)⟩),
  Ob.c fun c => ⟨_, _, (e_call2 rfl rfl Try.call15 (c.n 0 rfl) (eval_tmp _ 28)), applyE_c s _ (rotE (apF (s.size : Int) xs) b) _ (c.ro 3 rfl).1.sl (by omega) (by omega) (by omega)⟩,
  Ob.d fun c => r_move rfl (c.n 4 rfl),
  Ob.d fun c => r_extract rfl (c.n 5 rfl) rfl,
  Ob.d fun c => r_extract rfl (c.n 5 rfl) rfl,
  Ob.d fun c => r_assign rfl (c.n 6 rfl),
  Ob.d fun c => r_assign rfl (c.n 7 rfl), trivial⟩ ?_
 intro a5 w5 τ5 st5 f5
 obtain ⟨b5x28, e28⟩ : ∃ b, get a5 28 = b := ⟨_, rfl⟩
 obtain ⟨e0, e2, e6, e7, -⟩ := f5.ks [(0, _), (2, _), (6, _), (7, _)] ⟨e0, e2, e6, e7, trivial⟩
 have e8 : get a5 8 = (.string (applyF s (rotE (apF (s.size : Int) xs) b))) := f5.v 8 rfl
 have e9 : get a5 9 = (.int .i64 (mayEd (s.size : Int) (rotE (apF (s.size : Int) xs) b))) := f5.v 9 rfl
 replace r0 := f5.io 0 rfl
 clear f5
 show Code.wp _ _ _ a5 w5
 refine wp_seq ?_
 refine region_St (bf := [0, 0, 3, 7, 15, 15, 31, 127]) (sp := [det _ 33 _, det _ 34 _, det _ 35 _, det _ 32 _, det _ 36 _, det _ 37 _, det _ 10 _, det _ 11 _]) [io r0] mixed st5 (by kernel_rfl) ⟨r0, trivial⟩
  ⟨Ob.d fun c => r_move rfl (c.p e0),
  Ob.d fun c => r_move rfl (c.p e7),
  Ob.c fun c => ⟨_, _, (e_call2 rfl rfl Try.call16 (c.n 0 rfl) (c.n 1 rfl)), refApplyE_c s b4x7 (apF (s.size : Int) xs) _ (c.io 0 rfl).1.sl (by omega) (by omega) (by omega)⟩,
  Ob.d fun c => r_move rfl (c.n 2 rfl),
  Ob.d fun c => r_extract rfl (c.n 3 rfl) rfl,
  Ob.d fun c => r_extract rfl (c.n 3 rfl) rfl,
  Ob.d fun c => r_assign rfl (c.n 4 rfl),
  Ob.d fun c => r_assign rfl (c.n 5 rfl), trivial⟩ ?_
 intro a6 w6 τ6 st6 f6
 obtain ⟨e0, e2, e6, e7, e8, e9, -⟩ := f6.ks [(0, _), (2, _), (6, _), (7, _), (8, _), (9, _)] ⟨e0, e2, e6, e7, e8, e9, trivial⟩
 have e10 : get a6 10 = (.string (applyF s (apF (s.size : Int) xs))) := f6.v 6 rfl
 replace r0 := f6.io 0 rfl
 clear f6
 show Code.wp _ _ _ a6 w6
 refine wp_seq ?_
 refine region_St (bf := [0, 0, 0, 6, 15, 31, 63, 63, 127, 511]) (sp := [det _ 39 _, det _ 40 _, det _ 41 _, own _ _ _ 1 42 _, tup _ _ _ 2 43 _ _, tup _ _ _ 2 38 _ _, own _ _ _ 2 44 _, det _ 45 _, own _ _ _ 2 12 _, det _ 13 _]) [io r0] mixed st6 (by kernel_rfl) ⟨r0, trivial⟩
  ⟨Ob.d fun c => r_move rfl (c.p e0),
  Ob.d fun c => r_move rfl (c.p e7),
  Ob.d fun c => r_move rfl (c.p e2),
  Ob.callOwn rfl rfl rfl (fun _ a_ _ _ c => ⟨_, _, (e_call2 rfl rfl Try.call25 (c.n 1 rfl) (c.n 2 rfl)), turned_c b4x7 (apF (s.size : Int) xs) b _ (c.io 0 rfl).1.sl (by omega)⟩),
  Ob.callTup rfl rfl rfl (fun _ a_ _ _ c => ⟨_, _, (e_call2 rfl rfl Try.call17 (c.n 0 rfl) (eval_tmp _ 42)), backE_c s _ (rotE (apF (s.size : Int) xs) b) _ (c.ro 3 rfl).1.sl (by omega) (by omega) (by omega)⟩),
  Ob.moveT (t0 := 43) rfl rfl rfl rfl rfl (.inl rfl) (fun _ _ _ _ c => ⟨c.rtup 4 rfl rfl (by kernel_rfl), rfl⟩),
  Ob.part0 (t0 := 38) (k := (.int .i64 (mayEd (s.size : Int) (rotE (apF (s.size : Int) xs) b)))) rfl rfl rfl rfl (fun _ _ _ _ c => c.rtup 5 rfl rfl (by kernel_rfl)),
  Ob.d fun c => c.part1 5 rfl rfl rfl,
  Ob.moveT (t0 := 44) rfl rfl rfl rfl rfl (.inr rfl) (fun _ _ _ _ c => ⟨c.ro 6 rfl, rfl⟩),
  Ob.d fun c => r_assign rfl (c.n 7 rfl), trivial⟩ ?_
 intro a7 w7 τ7 st7 f7
 obtain ⟨b7x42, e42⟩ : ∃ b, get a7 42 = b := ⟨_, rfl⟩
 obtain ⟨b7x12, e12⟩ : ∃ b, get a7 12 = b := ⟨_, rfl⟩
 obtain ⟨e0, e2, e6, e7, e8, e9, e10, -⟩ := f7.ks [(0, _), (2, _), (6, _), (7, _), (8, _), (9, _), (10, _)] ⟨e0, e2, e6, e7, e8, e9, e10, trivial⟩
 have e13 : get a7 13 = (.int .i64 (mayEd (s.size : Int) (rotE (apF (s.size : Int) xs) b))) := f7.v 9 rfl
 replace r0 := f7.io 0 rfl
 have r2 : ownR EditE 45 (backF s (rotE (apF (s.size : Int) xs) b)) (τ7 2) b7x12 w7 := f7.ro 8 e12 rfl
 clear f7
 show Code.wp _ _ _ a7 w7
 refine wp_seq ?_
 refine region_St (bf := [0, 0, 3, 7, 15, 15, 31, 127]) (sp := [det _ 47 _, det _ 48 _, tup _ _ _ 1 49 _ _, tup _ _ _ 1 46 _ _, own _ _ _ 1 50 _, det _ 51 _, own _ _ _ 1 14 _, det _ 15 _]) [io r0, Ini.any _, io r2] mixed st7 (by kernel_rfl) ⟨r0, trivial, r2, trivial⟩
  ⟨Ob.d fun c => r_move rfl (c.p e0),
  Ob.d fun c => r_move rfl (c.p e7),
  Ob.callTup rfl rfl rfl (fun _ a_ _ _ c => ⟨_, _, (e_call2 rfl rfl Try.call18 (c.n 0 rfl) (c.n 1 rfl)), refBackE_c s b4x7 (apF (s.size : Int) xs) _ (c.io 0 rfl).1.sl (by omega) (by omega) (by omega)⟩),
  Ob.moveT (t0 := 49) rfl rfl rfl rfl rfl (.inl rfl) (fun _ _ _ _ c => ⟨c.rtup 2 rfl rfl (by kernel_rfl), rfl⟩),
  Ob.part0 (t0 := 46) (k := (.int .i64 (mayEd (s.size : Int) (apF (s.size : Int) xs)))) rfl rfl rfl rfl (fun _ _ _ _ c => c.rtup 3 rfl rfl (by kernel_rfl)),
  Ob.d fun c => c.part1 3 rfl rfl rfl,
  Ob.moveT (t0 := 50) rfl rfl rfl rfl rfl (.inr rfl) (fun _ _ _ _ c => ⟨c.ro 4 rfl, rfl⟩),
  Ob.d fun c => r_assign rfl (c.n 5 rfl), trivial⟩ ?_
 intro a8 w8 τ8 st8 f8
 obtain ⟨b8x14, e14⟩ : ∃ b, get a8 14 = b := ⟨_, rfl⟩
 obtain ⟨e0, e2, e6, e7, e8, e9, e10, e12, e13, -⟩ := f8.ks [(0, _), (2, _), (6, _), (7, _), (8, _), (9, _), (10, _), (12, _), (13, _)] ⟨e0, e2, e6, e7, e8, e9, e10, e12, e13, trivial⟩
 replace r0 := f8.io 0 rfl
 have r1 : ownR EditE 45 (backF s (apF (s.size : Int) xs)) (τ8 1) b8x14 w8 := f8.ro 6 e14 rfl
 replace r2 := f8.io 2 rfl
 clear f8
 show Code.wp _ _ _ a8 w8
 refine wp_seq ?_
 refine region_St (bf := [0, 1, 0, 7, 15, 31, 63, 127, 255, 511, 1023, 2047, 4095, 8191, 16383, 16383, 65535, 131071, 262143, 524287, 524287, 2097151, 4194303, 8388607, 16777215, 16777215, 67108863, 134217727, 16777215, 536870911, 1073741823, 2147483647, 4294967295, 8589934591, 17179869183]) (sp := [det _ 52 _, det _ 53 _, det _ 54 _, det _ 55 _, det _ 56 _, det _ 57 _, gdet _ 58 _ _, gdet _ 59 _ _, det _ 60 _, det _ 61 _, gdet _ 62 _ _, gdet _ 63 _ _, det _ 64 _, det _ 65 _, gdet _ 66 _ _, gdet _ 67 _ _, gdet _ 68 _ _, det _ 69 _, det _ 70 _, gdet _ 71 _ _, gdet _ 72 _ _, gdet _ 73 _ _, det _ 74 _, det _ 75 _, gdet _ 76 _ _, gdet _ 77 _ _, gown ((((((decide (mayEd (s.size : Int) (apF (s.size : Int) xs) = 0)) && (decide (mayEd (s.size : Int) (rotE (apF (s.size : Int) xs) b) = 0))) && (decide (mayEd (s.size : Int) (rotE (apF (s.size : Int) xs) b) = 0))) && (eqT (applyF s (rotE (apF (s.size : Int) xs) b)) (applyF s (apF (s.size : Int) xs)))) && (decide (backF s (rotE (apF (s.size : Int) xs) b) = backF s (apF (s.size : Int) xs)))) = true) EditE 45 (Nw w) 3 78 (rotE (apF (s.size : Int) xs) b), gown ((((((decide (mayEd (s.size : Int) (apF (s.size : Int) xs) = 0)) && (decide (mayEd (s.size : Int) (rotE (apF (s.size : Int) xs) b) = 0))) && (decide (mayEd (s.size : Int) (rotE (apF (s.size : Int) xs) b) = 0))) && (eqT (applyF s (rotE (apF (s.size : Int) xs) b)) (applyF s (apF (s.size : Int) xs)))) && (decide (backF s (rotE (apF (s.size : Int) xs) b) = backF s (apF (s.size : Int) xs)))) = true) EditE 45 (Nw w) 4 79 (isort ltE (rotE (apF (s.size : Int) xs) b)), gdet _ 80 _ _, gdet _ 81 _ _, det _ 82 _, det _ 83 _, gdet _ 84 _ _, det _ 85 _, det _ 6 _]) [io r0, io r1, io r2] mixed st8 (by kernel_rfl) ⟨r0, r1, r2, trivial⟩
  ⟨Ob.d fun c => r_move rfl (c.p e0),
  Ob.d fun c => r_lenS rfl Try.underlying9 (c.n 0 rfl),
  Ob.d fun c => r_move rfl (c.p e7),
  Ob.c fun c => ⟨_, _, (e_call2 rfl rfl Try.call19 (c.n 1 rfl) (c.n 2 rfl)), mayE_c (s.size : Int) b4x7 (apF (s.size : Int) xs) _ (c.io 0 rfl).1.sl (by omega)⟩,
  Ob.d fun c => r_eql rfl (c.n 3 rfl) rfl,
  Ob.d fun c => r_move rfl (c.n 4 rfl),
  Ob.g 5 true rfl fun c hpc => r_move rfl (c.p e9),
  Ob.g 5 true rfl fun c hpc => r_eql rfl (c.m 6 rfl hpc) rfl,
  Ob.d fun c => r_and rfl (c.n 5 rfl) (fun h => c.m 7 rfl h),
  Ob.d fun c => r_move rfl (c.n 8 rfl),
  Ob.g 9 true rfl fun c hpc => r_move rfl (c.p e13),
  Ob.g 9 true rfl fun c hpc => r_eql rfl (c.m 10 rfl hpc) rfl,
  Ob.d fun c => r_and rfl (c.n 9 rfl) (fun h => c.m 11 rfl h),
  Ob.d fun c => r_move rfl (c.n 12 rfl),
  Ob.g 13 true rfl fun c hpc => r_move rfl (c.p e8),
  Ob.g 13 true rfl fun c hpc => r_move rfl (c.p e10),
  Ob.g 13 true rfl fun c hpc => r_seql rfl (c.m 14 rfl hpc) (c.m 15 rfl hpc),
  Ob.d fun c => r_and rfl (c.n 13 rfl) (fun h => c.m 16 rfl h),
  Ob.d fun c => r_move rfl (c.n 17 rfl),
  Ob.g 18 true rfl fun c hpc => r_move rfl (c.p e12),
  Ob.g 18 true rfl fun c hpc => r_move rfl (c.p e14),
  Ob.gc 18 true rfl fun c hpc => ⟨_, _, (e_call2 rfl rfl Try.call21 (c.m 19 rfl hpc) (c.m 20 rfl hpc)), edits_c b7x12 b8x14 (backF s (rotE (apF (s.size : Int) xs) b)) (backF s (apF (s.size : Int) xs)) _ (c.io 2 rfl).1.sl (c.io 1 rfl).1.sl⟩,
  Ob.d fun c => r_and rfl (c.n 18 rfl) (fun h => c.m 21 rfl h),
  Ob.d fun c => r_move rfl (c.n 22 rfl),
  Ob.g 23 true rfl fun c hpc => r_move rfl (c.p e7),
  Ob.g 23 true rfl fun c hpc => r_move rfl (c.p e2),
  Ob.gown (gi := 23) (tg := 75) rfl rfl rfl rfl rfl rfl Iff.rfl (fun hpc => Ob.callOwn rfl rfl rfl (fun _ a_ _ _ c => ⟨_, _, (e_call2 rfl rfl Try.call25 (c.m 24 rfl hpc) (c.m 25 rfl hpc)), turned_c b4x7 (apF (s.size : Int) xs) b _ (c.io 0 rfl).1.sl (by have hq0 := hpc; (try simp only [Bool.and_eq_true, decide_eq_true_eq] at hq0); omega)⟩)),
  Ob.gown (gi := 23) (tg := 75) rfl rfl rfl rfl rfl rfl Iff.rfl (fun hpc => Ob.callOwn rfl rfl rfl (fun _ a_ _ _ c => ⟨_, _, (e_call1 rfl rfl Try.call22 (eval_tmp _ 78)), sortE_c _ (rotE (apF (s.size : Int) xs) b) _ (c.rg 26 rfl hpc).1.sl (by have hq0 := hpc; (try simp only [Bool.and_eq_true, decide_eq_true_eq] at hq0); omega)⟩)),
  Ob.g 23 true rfl fun c hpc => r_move rfl (c.p e7),
  Ob.gc 23 true rfl fun c hpc => ⟨_, _, (e_call2 rfl rfl Try.call21 (eval_tmp _ 79) (c.m 28 rfl hpc)), edits_c _ b4x7 (isort ltE (rotE (apF (s.size : Int) xs) b)) (apF (s.size : Int) xs) _ (c.rg 27 rfl hpc).1.sl (c.io 0 rfl).1.sl⟩,
  Ob.d fun c => r_and rfl (c.n 23 rfl) (fun h => c.m 29 rfl h),
  Ob.d fun c => r_move rfl (c.n 30 rfl),
  Ob.gc 31 true rfl fun c hpc => ⟨_, _, (e_call0 rfl rfl Try.call14), awake_c _⟩,
  Ob.d fun c => r_and rfl (c.n 31 rfl) (fun h => c.m 32 rfl h),
  Ob.d fun c => r_assign rfl (c.n 33 rfl), trivial⟩ ?_
 intro a9 w9 τ9 st9 f9
 have e6 : get a9 6 = (.bool (((((((decide (mayEd (s.size : Int) (apF (s.size : Int) xs) = 0)) && (decide (mayEd (s.size : Int) (rotE (apF (s.size : Int) xs) b) = 0))) && (decide (mayEd (s.size : Int) (rotE (apF (s.size : Int) xs) b) = 0))) && (eqT (applyF s (rotE (apF (s.size : Int) xs) b)) (applyF s (apF (s.size : Int) xs)))) && (decide (backF s (rotE (apF (s.size : Int) xs) b) = backF s (apF (s.size : Int) xs)))) && (decide (isort ltE (rotE (apF (s.size : Int) xs) b) = apF (s.size : Int) xs))) && true)) := f9.v 34 rfl
 clear f9
 show Code.wp _ _ _ a9 w9
 refine wp_ret ?_
 repeat (first | with_reducible refine then_ret ?_ | with_reducible refine block_ret ?_)
 refine ret1 (fn := Try.f4) rfl st9.defers e6 ?_
 exact ⟨congrArg _ (congrArg _ (show (((((((decide (mayEd (s.size : Int) (apF (s.size : Int) xs) = 0)) && (decide (mayEd (s.size : Int) (rotE (apF (s.size : Int) xs) b) = 0))) && (decide (mayEd (s.size : Int) (rotE (apF (s.size : Int) xs) b) = 0))) && (eqT (applyF s (rotE (apF (s.size : Int) xs) b)) (applyF s (apF (s.size : Int) xs)))) && (decide (backF s (rotE (apF (s.size : Int) xs) b) = backF s (apF (s.size : Int) xs)))) && (decide (isort ltE (rotE (apF (s.size : Int) xs) b) = apF (s.size : Int) xs))) && true) = true from by simp [f1, f2, f3, g1, g2, g3, g4, eqT_self])), st9.ext0⟩
end B
end Go.Proofs.Ytfkjmkngiiokmaa
