/-
  Walks, printed by a program (gen.py): LChangeTells.
-/
import Derived.Test.YtfkjmkngiiokmaaChC
import Derived.Test.YtfkjmkngiiokmaaChgL
set_option linter.unusedSimpArgs false
set_option linter.unusedVariables false
namespace Go.Proofs.Ytfkjmkngiiokmaa
namespace B
open Go.RowKit
open Srt
set_option maxRecDepth 100000 in
set_option maxHeartbeats 4000000 in
theorem changeTells_c (s : ByteArray) (v : Value) (xs : List (Int × Int × ByteArray)) (w : World) (hS : SlT EditE w v xs) : Calls Try.prog 3 #[(.string (s)), v] w (fun e w' => e = .returned (.bool (true)) ∧ Ext none' w w') := by
 refine enter (n := 84) Try.func3 rfl rfl (Nat.le_of_ble_eq_true rfl) ?_
 intro a0 τ0 ha st0
 have e0 : get a0 0 = (.string (s)) := ha 0 _ rfl
 have e1 : get a0 1 = v := ha 1 _ rfl
 clear ha
 have hle := hS.le
 refine wp_seq ?_
 refine region_St (bf := [0]) (sp := [det _ 4 _]) [] mixed st0 (by kernel_rfl) trivial
  ⟨Ob.d fun c => r_assign rfl rfl, trivial⟩ ?_
 intro a1 w1 τ1 st1 f1
 obtain ⟨e0, e1, -⟩ := f1.ks [(0, _), (1, _)] ⟨e0, e1, trivial⟩
 have e4 : get a1 4 = (.bool (false)) := f1.v 0 rfl
 clear f1
 show Code.wp _ _ _ a1 w1
 refine wp_seq ?_
 refine wp_seq ?_
 refine region_St (bf := [0, 1, 3, 7, 15, 31, 63]) (sp := [det _ 13 _, det _ 14 _, det _ 15 _, det _ 16 _, gdet _ 17 _ _, gdet _ 18 _ _, det _ 19 _]) [] mixed st1 (by kernel_rfl) trivial
  ⟨Ob.d fun c => r_move rfl (c.p e0),
  Ob.d fun c => r_lenS rfl Try.underlying9 (c.n 0 rfl),
  Ob.d fun c => r_gtr rfl (c.n 1 rfl) rfl,
  Ob.d fun c => r_move rfl (c.n 2 rfl),
  Ob.g 3 false rfl fun c hpc => r_move rfl (c.p e1),
  Ob.gc 3 false rfl fun c hpc => ⟨_, _, (e_call3 rfl rfl Try.call13 rfl rfl (c.m 4 rfl hpc)), much_c 20 200 v xs _ (hS.at (st1.ext.trans c.J.ext)) (by have hq0 := bn hpc; omega) (by have hq0 := bn hpc; omega)⟩,
  Ob.d fun c => r_or rfl (c.n 3 rfl) (fun h => c.m 5 rfl h), trivial⟩ ?_
 intro a2 w2 τ2 st2 f2
 obtain ⟨e0, e1, e4, -⟩ := f2.ks [(0, _), (1, _), (4, _)] ⟨e0, e1, e4, trivial⟩
 have e19 : get a2 19 = (.bool ((decide (200 < (s.size : Int))) || (muchF 20 200 xs))) := f2.v 6 rfl
 clear f2
 show Code.wp _ _ _ a2 w2
 refine wp_cond_split (t := (decide (200 < (s.size : Int))) || (muchF 20 200 xs)) e19 (fun hc1 => ?_) (fun hc1 => ?_)
 · try simp only [Bool.or_eq_true, decide_eq_true_eq] at hc1
   refine wp_seq ?_
   refine region_St (bf := [0, 1]) (sp := [det _ 20 _, det _ 4 _]) [] mixed st2 (by kernel_rfl) trivial
    ⟨Ob.c fun c => ⟨_, _, (e_call0 rfl rfl Try.call14), awake_c _⟩,
    Ob.d fun c => r_assign rfl (c.n 0 rfl), trivial⟩ ?_
   intro a3 w3 τ3 st3 f3
   obtain ⟨e0, e1, -⟩ := f3.ks [(0, _), (1, _)] ⟨e0, e1, trivial⟩
   have e4 : get a3 4 = (.bool (true)) := f3.v 1 rfl
   clear f3
   show Code.wp _ _ _ a3 w3
   refine wp_ret ?_
   repeat (first | with_reducible refine then_ret ?_ | with_reducible refine block_ret ?_)
   refine ret1 (fn := Try.f3) rfl st3.defers e4 ?_
   exact ⟨rfl, st3.ext0⟩
 try simp only [Bool.or_eq_false_iff, decide_eq_false_iff_not, Int.not_lt] at hc1
 refine wp_skip ?_
 show Code.wp _ _ _ a2 w2
 refine wp_seq ?_
 obtain ⟨hs2, hm⟩ := (by assumption : (s.size : Int) ≤ 200 ∧ muchF 20 200 xs = false)
 have hmm := Bool.or_eq_false_iff.1 hm
 have hml := of_decide_eq_false hmm.1
 have hmz := muchL_sizes hmm.2 (by omega)
 refine region_St (bf := [0, 0, 3, 7, 15, 15, 31, 127]) (sp := [det _ 22 _, det _ 23 _, det _ 24 _, det _ 21 _, det _ 25 _, det _ 26 _, det _ 5 _, det _ 6 _]) [] mixed st2 (by kernel_rfl) trivial
  ⟨Ob.d fun c => r_move rfl (c.p e0),
  Ob.d fun c => r_move rfl (c.p e1),
  Ob.c fun c => ⟨_, _, (e_call2 rfl rfl Try.call15 (c.n 0 rfl) (c.n 1 rfl)), applyE_c s v xs _ (hS.at (st2.ext.trans c.J.ext)) (by omega) (by omega) (by omega)⟩,
  Ob.d fun c => r_move rfl (c.n 2 rfl),
  Ob.d fun c => r_extract rfl (c.n 3 rfl) rfl,
  Ob.d fun c => r_extract rfl (c.n 3 rfl) rfl,
  Ob.d fun c => r_assign rfl (c.n 4 rfl),
  Ob.d fun c => r_assign rfl (c.n 5 rfl), trivial⟩ ?_
 intro a4 w4 τ4 st4 f4
 obtain ⟨e0, e1, e4, -⟩ := f4.ks [(0, _), (1, _), (4, _)] ⟨e0, e1, e4, trivial⟩
 have e5 : get a4 5 = (.string (applyF s xs)) := f4.v 6 rfl
 have e6 : get a4 6 = (.int .i64 (mayEd (s.size : Int) xs)) := f4.v 7 rfl
 clear f4
 show Code.wp _ _ _ a4 w4
 refine wp_seq ?_
 refine region_St (bf := [0, 0, 3, 7, 15, 15, 31, 127]) (sp := [det _ 28 _, det _ 29 _, det _ 30 _, det _ 27 _, det _ 31 _, det _ 32 _, det _ 7 _, det _ 8 _]) [] mixed st4 (by kernel_rfl) trivial
  ⟨Ob.d fun c => r_move rfl (c.p e0),
  Ob.d fun c => r_move rfl (c.p e1),
  Ob.c fun c => ⟨_, _, (e_call2 rfl rfl Try.call16 (c.n 0 rfl) (c.n 1 rfl)), refApplyE_c s v xs _ (hS.at (st4.ext.trans c.J.ext)) (by omega) (by omega) (by omega)⟩,
  Ob.d fun c => r_move rfl (c.n 2 rfl),
  Ob.d fun c => r_extract rfl (c.n 3 rfl) rfl,
  Ob.d fun c => r_extract rfl (c.n 3 rfl) rfl,
  Ob.d fun c => r_assign rfl (c.n 4 rfl),
  Ob.d fun c => r_assign rfl (c.n 5 rfl), trivial⟩ ?_
 intro a5 w5 τ5 st5 f5
 obtain ⟨e0, e1, e4, e5, e6, -⟩ := f5.ks [(0, _), (1, _), (4, _), (5, _), (6, _)] ⟨e0, e1, e4, e5, e6, trivial⟩
 have e7 : get a5 7 = (.string (applyF s xs)) := f5.v 6 rfl
 have e8 : get a5 8 = (.int .i64 (mayEd (s.size : Int) xs)) := f5.v 7 rfl
 clear f5
 show Code.wp _ _ _ a5 w5
 refine wp_seq ?_
 refine region_St (bf := [0, 0, 3, 7, 15, 15, 31, 127]) (sp := [det _ 34 _, det _ 35 _, tup _ _ _ 0 36 _ _, tup _ _ _ 0 33 _ _, own _ _ _ 0 37 _, det _ 38 _, own _ _ _ 0 9 _, det _ 10 _]) [] mixed st5 (by kernel_rfl) trivial
  ⟨Ob.d fun c => r_move rfl (c.p e0),
  Ob.d fun c => r_move rfl (c.p e1),
  Ob.callTup rfl rfl rfl (fun _ a_ _ _ c => ⟨_, _, (e_call2 rfl rfl Try.call17 (c.n 0 rfl) (c.n 1 rfl)), backE_c s v xs _ (hS.at (st5.ext.trans c.J.ext)) (by omega) (by omega) (by omega)⟩),
  Ob.moveT (t0 := 36) rfl rfl rfl rfl rfl (.inl rfl) (fun _ _ _ _ c => ⟨c.rtup 2 rfl rfl (by kernel_rfl), rfl⟩),
  Ob.part0 (t0 := 33) (k := (.int .i64 (mayEd (s.size : Int) xs))) rfl rfl rfl rfl (fun _ _ _ _ c => c.rtup 3 rfl rfl (by kernel_rfl)),
  Ob.d fun c => c.part1 3 rfl rfl rfl,
  Ob.moveT (t0 := 37) rfl rfl rfl rfl rfl (.inr rfl) (fun _ _ _ _ c => ⟨c.ro 4 rfl, rfl⟩),
  Ob.d fun c => r_assign rfl (c.n 5 rfl), trivial⟩ ?_
 intro a6 w6 τ6 st6 f6
 obtain ⟨b6x9, e9⟩ : ∃ b, get a6 9 = b := ⟨_, rfl⟩
 obtain ⟨e0, e1, e4, e5, e6, e7, e8, -⟩ := f6.ks [(0, _), (1, _), (4, _), (5, _), (6, _), (7, _), (8, _)] ⟨e0, e1, e4, e5, e6, e7, e8, trivial⟩
 have e10 : get a6 10 = (.int .i64 (mayEd (s.size : Int) xs)) := f6.v 7 rfl
 have r0 : ownR EditE 45 (backF s xs) (τ6 0) b6x9 w6 := f6.ro 6 e9 rfl
 clear f6
 show Code.wp _ _ _ a6 w6
 refine wp_seq ?_
 refine region_St (bf := [0, 0, 3, 7, 15, 15, 31, 127]) (sp := [det _ 40 _, det _ 41 _, tup _ _ _ 1 42 _ _, tup _ _ _ 1 39 _ _, own _ _ _ 1 43 _, det _ 44 _, own _ _ _ 1 11 _, det _ 12 _]) [io r0] mixed st6 (by kernel_rfl) ⟨r0, trivial⟩
  ⟨Ob.d fun c => r_move rfl (c.p e0),
  Ob.d fun c => r_move rfl (c.p e1),
  Ob.callTup rfl rfl rfl (fun _ a_ _ _ c => ⟨_, _, (e_call2 rfl rfl Try.call18 (c.n 0 rfl) (c.n 1 rfl)), refBackE_c s v xs _ (hS.at (st6.ext.trans c.J.ext)) (by omega) (by omega) (by omega)⟩),
  Ob.moveT (t0 := 42) rfl rfl rfl rfl rfl (.inl rfl) (fun _ _ _ _ c => ⟨c.rtup 2 rfl rfl (by kernel_rfl), rfl⟩),
  Ob.part0 (t0 := 39) (k := (.int .i64 (mayEd (s.size : Int) xs))) rfl rfl rfl rfl (fun _ _ _ _ c => c.rtup 3 rfl rfl (by kernel_rfl)),
  Ob.d fun c => c.part1 3 rfl rfl rfl,
  Ob.moveT (t0 := 43) rfl rfl rfl rfl rfl (.inr rfl) (fun _ _ _ _ c => ⟨c.ro 4 rfl, rfl⟩),
  Ob.d fun c => r_assign rfl (c.n 5 rfl), trivial⟩ ?_
 intro a7 w7 τ7 st7 f7
 obtain ⟨b7x11, e11⟩ : ∃ b, get a7 11 = b := ⟨_, rfl⟩
 obtain ⟨e0, e1, e4, e5, e6, e7, e8, e9, e10, -⟩ := f7.ks [(0, _), (1, _), (4, _), (5, _), (6, _), (7, _), (8, _), (9, _), (10, _)] ⟨e0, e1, e4, e5, e6, e7, e8, e9, e10, trivial⟩
 have e12 : get a7 12 = (.int .i64 (mayEd (s.size : Int) xs)) := f7.v 7 rfl
 replace r0 := f7.io 0 rfl
 have r1 : ownR EditE 45 (backF s xs) (τ7 1) b7x11 w7 := f7.ro 6 e11 rfl
 clear f7
 show Code.wp _ _ _ a7 w7
 refine wp_seq ?_
 refine region_St (bf := [0, 1, 0, 7, 0, 16, 0, 127, 255, 511, 1023, 2047, 1023, 8191, 16383, 32767, 65535, 131071, 131071, 524287, 1048575, 2097151, 4194303, 4194303, 16777215, 33554431, 67108863, 134217727, 134217727, 536870911, 1073741823, 2147483647, 4294967295, 4294967295, 17179869183, 34359738367, 68719476735, 137438953471, 274877906943, 549755813887]) (sp := [det _ 45 _, det _ 46 _, det _ 47 _, det _ 48 _, det _ 49 _, det _ 50 _, det _ 51 _, det _ 52 _, det _ 53 _, det _ 54 _, gdet _ 55 _ _, gown ((decide (mayEd (s.size : Int) xs = mayEd (s.size : Int) xs)) = true) EditE 45 (Nw w) 2 56 (isort ltE xs), gdet _ 57 _ _, gown ((decide (mayEd (s.size : Int) xs = mayEd (s.size : Int) xs)) = true) EditE 45 (Nw w) 3 58 (isort ltE xs), gdet _ 59 _ _, det _ 60 _, det _ 61 _, gdet _ 62 _ _, gdet _ 63 _ _, gdet _ 64 _ _, det _ 65 _, det _ 66 _, gdet _ 67 _ _, gdet _ 68 _ _, gdet _ 69 _ _, det _ 70 _, det _ 71 _, gdet _ 72 _ _, gdet _ 73 _ _, gdet _ 74 _ _, det _ 75 _, det _ 76 _, gdet _ 77 _ _, gdet _ 78 _ _, gdet _ 79 _ _, det _ 80 _, det _ 81 _, gdet _ 82 _ _, det _ 83 _, det _ 4 _]) [io r0, io r1] mixed st7 (by kernel_rfl) ⟨r0, r1, trivial⟩
  ⟨Ob.d fun c => r_move rfl (c.p e0),
  Ob.d fun c => r_lenS rfl Try.underlying9 (c.n 0 rfl),
  Ob.d fun c => r_move rfl (c.p e1),
  Ob.c fun c => ⟨_, _, (e_call2 rfl rfl Try.call19 (c.n 1 rfl) (c.n 2 rfl)), mayE_c (s.size : Int) v xs _ (hS.at (st7.ext.trans c.J.ext)) (by omega)⟩,
  Ob.d fun c => r_move rfl (c.p e0),
  Ob.d fun c => r_lenS rfl Try.underlying9 (c.n 4 rfl),
  Ob.d fun c => r_move rfl (c.p e1),
  Ob.c fun c => ⟨_, _, (e_call2 rfl rfl Try.call20 (c.n 5 rfl) (c.n 6 rfl)), refMayE_c (s.size : Int) v xs _ (hS.at (st7.ext.trans c.J.ext)) (by omega)⟩,
  Ob.d fun c => r_eql rfl (c.n 3 rfl) (c.n 7 rfl),
  Ob.d fun c => r_move rfl (c.n 8 rfl),
  Ob.g 9 true rfl fun c hpc => r_move rfl (c.p e1),
  Ob.gown (gi := 9) (tg := 54) rfl rfl rfl rfl rfl rfl Iff.rfl (fun hpc => Ob.callOwn rfl rfl rfl (fun _ a_ _ _ c => ⟨_, _, (e_call1 rfl rfl Try.call22 (c.m 10 rfl hpc)), sortE_c v xs _ (hS.at (st7.ext.trans c.J.ext)) (by have hq0 := bt hpc; omega)⟩)),
  Ob.g 9 true rfl fun c hpc => r_move rfl (c.p e1),
  Ob.gown (gi := 9) (tg := 54) rfl rfl rfl rfl rfl rfl Iff.rfl (fun hpc => Ob.callOwn rfl rfl rfl (fun _ a_ _ _ c => ⟨_, _, (e_call1 rfl rfl Try.call23 (c.m 12 rfl hpc)), refSortE_c v xs _ (hS.at (st7.ext.trans c.J.ext)) (by have hq0 := bt hpc; omega)⟩)),
  Ob.gc 9 true rfl fun c hpc => ⟨_, _, (e_call2 rfl rfl Try.call21 (eval_tmp _ 56) (eval_tmp _ 58)), edits_c _ _ (isort ltE xs) (isort ltE xs) _ (c.rg 11 rfl hpc).1.sl (c.rg 13 rfl hpc).1.sl⟩,
  Ob.d fun c => r_and rfl (c.n 9 rfl) (fun h => c.m 14 rfl h),
  Ob.d fun c => r_move rfl (c.n 15 rfl),
  Ob.g 16 true rfl fun c hpc => r_move rfl (c.p e5),
  Ob.g 16 true rfl fun c hpc => r_move rfl (c.p e7),
  Ob.g 16 true rfl fun c hpc => r_seql rfl (c.m 17 rfl hpc) (c.m 18 rfl hpc),
  Ob.d fun c => r_and rfl (c.n 16 rfl) (fun h => c.m 19 rfl h),
  Ob.d fun c => r_move rfl (c.n 20 rfl),
  Ob.g 21 true rfl fun c hpc => r_move rfl (c.p e6),
  Ob.g 21 true rfl fun c hpc => r_move rfl (c.p e8),
  Ob.g 21 true rfl fun c hpc => r_eql rfl (c.m 22 rfl hpc) (c.m 23 rfl hpc),
  Ob.d fun c => r_and rfl (c.n 21 rfl) (fun h => c.m 24 rfl h),
  Ob.d fun c => r_move rfl (c.n 25 rfl),
  Ob.g 26 true rfl fun c hpc => r_move rfl (c.p e9),
  Ob.g 26 true rfl fun c hpc => r_move rfl (c.p e11),
  Ob.gc 26 true rfl fun c hpc => ⟨_, _, (e_call2 rfl rfl Try.call21 (c.m 27 rfl hpc) (c.m 28 rfl hpc)), edits_c b6x9 b7x11 (backF s xs) (backF s xs) _ (c.io 0 rfl).1.sl (c.io 1 rfl).1.sl⟩,
  Ob.d fun c => r_and rfl (c.n 26 rfl) (fun h => c.m 29 rfl h),
  Ob.d fun c => r_move rfl (c.n 30 rfl),
  Ob.g 31 true rfl fun c hpc => r_move rfl (c.p e10),
  Ob.g 31 true rfl fun c hpc => r_move rfl (c.p e12),
  Ob.g 31 true rfl fun c hpc => r_eql rfl (c.m 32 rfl hpc) (c.m 33 rfl hpc),
  Ob.d fun c => r_and rfl (c.n 31 rfl) (fun h => c.m 34 rfl h),
  Ob.d fun c => r_move rfl (c.n 35 rfl),
  Ob.gc 36 true rfl fun c hpc => ⟨_, _, (e_call0 rfl rfl Try.call14), awake_c _⟩,
  Ob.d fun c => r_and rfl (c.n 36 rfl) (fun h => c.m 37 rfl h),
  Ob.d fun c => r_assign rfl (c.n 38 rfl), trivial⟩ ?_
 intro a8 w8 τ8 st8 f8
 have e4 : get a8 4 = (.bool (((((((decide (mayEd (s.size : Int) xs = mayEd (s.size : Int) xs)) && (decide (isort ltE xs = isort ltE xs))) && (eqT (applyF s xs) (applyF s xs))) && (decide (mayEd (s.size : Int) xs = mayEd (s.size : Int) xs))) && (decide (backF s xs = backF s xs))) && (decide (mayEd (s.size : Int) xs = mayEd (s.size : Int) xs))) && true)) := f8.v 39 rfl
 clear f8
 show Code.wp _ _ _ a8 w8
 refine wp_ret ?_
 repeat (first | with_reducible refine then_ret ?_ | with_reducible refine block_ret ?_)
 refine ret1 (fn := Try.f3) rfl st8.defers e4 ?_
 exact ⟨congrArg _ (congrArg _ (show (((((((decide (mayEd (s.size : Int) xs = mayEd (s.size : Int) xs)) && (decide (isort ltE xs = isort ltE xs))) && (eqT (applyF s xs) (applyF s xs))) && (decide (mayEd (s.size : Int) xs = mayEd (s.size : Int) xs))) && (decide (backF s xs = backF s xs))) && (decide (mayEd (s.size : Int) xs = mayEd (s.size : Int) xs))) && true) = true from by simp [eqT_iff])), st8.ext0⟩
end B
end Go.Proofs.Ytfkjmkngiiokmaa
