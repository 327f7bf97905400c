/-
  Walks, printed by a program (gen.py): LMoveRises.
-/
import Derived.Test.YtfkjmkngiiokmaaChC
import Derived.Test.YtfkjmkngiiokmaaChgL
set_option linter.unusedSimpArgs false
set_option linter.unusedVariables false
namespace Go.Proofs.Ytfkjmkngiiokmaa
namespace B
open Go.RowKit
open Srt
set_option maxRecDepth 100000 in
set_option maxHeartbeats 4000000 in
theorem moveRises_c (s : ByteArray) (a b : Int) (v : Value) (xs : List (Int × Int × ByteArray)) (w : World) (hS : SlT EditE w v xs) : Calls Try.prog 8 #[(.string (s)), (.int .i64 (a)), (.int .i64 (b)), v] w (fun e w' => e = .returned (.bool (true)) ∧ Ext none' w w') := by
 refine enter (n := 95) Try.func8 rfl rfl (Nat.le_of_ble_eq_true rfl) ?_
 intro a0 τ0 ha st0
 have e0 : get a0 0 = (.string (s)) := ha 0 _ rfl
 have e1 : get a0 1 = (.int .i64 (a)) := ha 1 _ rfl
 have e2 : get a0 2 = (.int .i64 (b)) := ha 2 _ rfl
 have e3 : get a0 3 = v := ha 3 _ rfl
 clear ha
 refine wp_seq ?_
 refine region_St (bf := [0]) (sp := [det _ 8 _]) [] mixed st0 (by kernel_rfl) trivial
  ⟨Ob.d fun c => r_assign rfl rfl, trivial⟩ ?_
 intro a1 w1 τ1 st1 f1
 obtain ⟨e0, e1, e2, e3, -⟩ := f1.ks [(0, _), (1, _), (2, _), (3, _)] ⟨e0, e1, e2, e3, trivial⟩
 have e8 : get a1 8 = (.bool (false)) := f1.v 0 rfl
 clear f1
 show Code.wp _ _ _ a1 w1
 refine wp_seq ?_
 refine wp_seq ?_
 refine region_St (bf := [0, 1, 3]) (sp := [det _ 18 _, det _ 19 _, det _ 20 _]) [] mixed st1 (by kernel_rfl) trivial
  ⟨Ob.d fun c => r_move rfl (c.p e0),
  Ob.d fun c => r_lenS rfl Try.underlying9 (c.n 0 rfl),
  Ob.d fun c => r_gtr rfl (c.n 1 rfl) rfl, trivial⟩ ?_
 intro a2 w2 τ2 st2 f2
 obtain ⟨e0, e1, e2, e3, e8, -⟩ := f2.ks [(0, _), (1, _), (2, _), (3, _), (8, _)] ⟨e0, e1, e2, e3, e8, trivial⟩
 have e20 : get a2 20 = (.bool (decide (200 < (s.size : Int)))) := f2.v 2 rfl
 clear f2
 show Code.wp _ _ _ a2 w2
 refine wp_cond_split (t := decide (200 < (s.size : Int))) e20 (fun hc1 => ?_) (fun hc1 => ?_)
 · try simp only [decide_eq_true_eq] at hc1
   refine wp_seq ?_
   refine region_St (bf := [0, 1]) (sp := [det _ 21 _, det _ 8 _]) [] mixed st2 (by kernel_rfl) trivial
    ⟨Ob.c fun c => ⟨_, _, (e_call0 rfl rfl Try.call14), awake_c _⟩,
    Ob.d fun c => r_assign rfl (c.n 0 rfl), trivial⟩ ?_
   intro a3 w3 τ3 st3 f3
   obtain ⟨e0, e1, e2, e3, -⟩ := f3.ks [(0, _), (1, _), (2, _), (3, _)] ⟨e0, e1, e2, e3, trivial⟩
   have e8 : get a3 8 = (.bool (true)) := f3.v 1 rfl
   clear f3
   show Code.wp _ _ _ a3 w3
   refine wp_ret ?_
   repeat (first | with_reducible refine then_ret ?_ | with_reducible refine block_ret ?_)
   refine ret1 (fn := Try.f8) rfl st3.defers e8 ?_
   exact ⟨rfl, st3.ext0⟩
 try simp only [decide_eq_false_iff_not, Int.not_lt] at hc1
 refine wp_skip ?_
 show Code.wp _ _ _ a2 w2
 refine wp_seq ?_
 refine region_St (bf := [0, 1, 0, 7, 15]) (sp := [det _ 22 _, det _ 23 _, det _ 24 _, own _ _ _ 0 25 _, own _ _ _ 0 9 _]) [] mixed st2 (by kernel_rfl) trivial
  ⟨Ob.d fun c => r_move rfl (c.p e0),
  Ob.d fun c => r_lenS rfl Try.underlying9 (c.n 0 rfl),
  Ob.d fun c => r_move rfl (c.p e3),
  Ob.callOwn rfl rfl rfl (fun _ a_ _ _ c => ⟨_, _, (e_call2 rfl rfl Try.call24 (c.n 1 rfl) (c.n 2 rfl)), apartP_c (s.size : Int) v xs _ (hS.at (st2.ext.trans c.J.ext)) (by omega) (by omega)⟩),
  Ob.moveT (t0 := 25) rfl rfl rfl rfl rfl (.inr rfl) (fun _ _ _ _ c => ⟨c.ro 3 rfl, rfl⟩), trivial⟩ ?_
 intro a4 w4 τ4 st4 f4
 obtain ⟨b4x9, e9⟩ : ∃ b, get a4 9 = b := ⟨_, rfl⟩
 obtain ⟨e0, e1, e2, e8, -⟩ := f4.ks [(0, _), (1, _), (2, _), (8, _)] ⟨e0, e1, e2, e8, trivial⟩
 have r0 : ownR EditE 45 (apF (s.size : Int) xs) (τ4 0) b4x9 w4 := f4.ro 4 e9 rfl
 clear f4
 obtain ⟨hap, hez, hel⟩ := apF_ap (n := (s.size : Int)) (by omega) xs
 have hla := low_range a ((s.size : Int) + 1) (by omega) (by omega)
 have hlb := low_range b ((s.size : Int) + 1) (by omega) (by omega)
 obtain ⟨h1_, h2_, h3_, h4_⟩ := grown_facts hap (by omega) (by omega) (by omega)
 show Code.wp _ _ _ a4 w4
 refine wp_seq ?_
 refine region_St (bf := [0, 0, 2, 6, 15, 0, 0, 64, 192, 511, 1023, 2047]) (sp := [det _ 26 _, det _ 27 _, det _ 28 _, det _ 29 _, det _ 30 _, det _ 31 _, det _ 32 _, det _ 33 _, det _ 34 _, det _ 35 _, det _ 10 _, det _ 11 _]) [io r0] mixed st4 (by kernel_rfl) ⟨r0, trivial⟩
  ⟨Ob.d fun c => r_move rfl (c.p e1),
  Ob.d fun c => r_move rfl (c.p e0),
  Ob.d fun c => r_lenS rfl Try.underlying9 (c.n 1 rfl),
  Ob.d fun c => r_add rfl (c.n 2 rfl) rfl (by omega),
  Ob.c fun c => ⟨_, _, (e_call2 rfl rfl Try.call28 (c.n 0 rfl) (c.n 3 rfl)), low_c a ((s.size : Int) + 1) _ (by omega) (by omega)⟩,
  Ob.d fun c => r_move rfl (c.p e2),
  Ob.d fun c => r_move rfl (c.p e0),
  Ob.d fun c => r_lenS rfl Try.underlying9 (c.n 6 rfl),
  Ob.d fun c => r_add rfl (c.n 7 rfl) rfl (by omega),
  Ob.c fun c => ⟨_, _, (e_call2 rfl rfl Try.call28 (c.n 5 rfl) (c.n 8 rfl)), low_c b ((s.size : Int) + 1) _ (by omega) (by omega)⟩,
  Ob.d fun c => r_assign rfl (c.n 4 rfl),
  Ob.d fun c => r_assign rfl (c.n 9 rfl), trivial⟩ ?_
 intro a5 w5 τ5 st5 f5
 obtain ⟨e0, e8, e9, -⟩ := f5.ks [(0, _), (8, _), (9, _)] ⟨e0, e8, e9, trivial⟩
 have e10 : get a5 10 = (.int .i64 (lowF a ((s.size : Int) + 1))) := f5.v 10 rfl
 have e11 : get a5 11 = (.int .i64 (lowF b ((s.size : Int) + 1))) := f5.v 11 rfl
 replace r0 := f5.io 0 rfl
 clear f5
 show Code.wp _ _ _ a5 w5
 refine wp_seq ?_
 refine region_St (bf := [0, 0, 3, 0, 0, 24, 7, 127]) (sp := [det _ 36 _, det _ 37 _, det _ 38 _, det _ 39 _, det _ 40 _, det _ 41 _, det _ 12 _, det _ 13 _]) [io r0] mixed st5 (by kernel_rfl) ⟨r0, trivial⟩
  ⟨Ob.d fun c => r_move rfl (c.p e10),
  Ob.d fun c => r_move rfl (c.p e11),
  Ob.d fun c => r_min rfl (c.n 0 rfl) (c.n 1 rfl),
  Ob.d fun c => r_move rfl (c.p e10),
  Ob.d fun c => r_move rfl (c.p e11),
  Ob.d fun c => r_max rfl (c.n 3 rfl) (c.n 4 rfl),
  Ob.d fun c => r_assign rfl (c.n 2 rfl),
  Ob.d fun c => r_assign rfl (c.n 5 rfl), trivial⟩ ?_
 intro a6 w6 τ6 st6 f6
 obtain ⟨e0, e8, e9, -⟩ := f6.ks [(0, _), (8, _), (9, _)] ⟨e0, e8, e9, trivial⟩
 have e12 : get a6 12 = (.int .i64 (min (lowF a ((s.size : Int) + 1)) (lowF b ((s.size : Int) + 1)))) := f6.v 6 rfl
 have e13 : get a6 13 = (.int .i64 (max (lowF a ((s.size : Int) + 1)) (lowF b ((s.size : Int) + 1)))) := f6.v 7 rfl
 replace r0 := f6.io 0 rfl
 clear f6
 show Code.wp _ _ _ a6 w6
 refine wp_seq ?_
 refine region_St (bf := [0, 1, 0, 7, 15]) (sp := [det _ 42 _, det _ 43 _, det _ 44 _, det _ 45 _, det _ 14 _]) [io r0] mixed st6 (by kernel_rfl) ⟨r0, trivial⟩
  ⟨Ob.d fun c => r_move rfl (c.p e0),
  Ob.d fun c => r_lenS rfl Try.underlying9 (c.n 0 rfl),
  Ob.d fun c => r_move rfl (c.p e9),
  Ob.c fun c => ⟨_, _, (e_call2 rfl rfl Try.call26 (c.n 1 rfl) (c.n 2 rfl)), grown_c (s.size : Int) b4x9 (apF (s.size : Int) xs) _ (c.io 0 rfl).1.sl (by omega)⟩,
  Ob.d fun c => r_assign rfl (c.n 3 rfl), trivial⟩ ?_
 intro a7 w7 τ7 st7 f7
 obtain ⟨e0, e8, e9, e12, e13, -⟩ := f7.ks [(0, _), (8, _), (9, _), (12, _), (13, _)] ⟨e0, e8, e9, e12, e13, trivial⟩
 have e14 : get a7 14 = (.int .i64 (grownW (s.size : Int) (apF (s.size : Int) xs))) := f7.v 4 rfl
 replace r0 := f7.io 0 rfl
 clear f7
 replace e14 := e14.trans (int_eq (show grownW (s.size : Int) (apF (s.size : Int) xs) = (grown (s.size : Int) (apF (s.size : Int) xs) : Int) from by exact h1_))
 show Code.wp _ _ _ a7 w7
 refine wp_seq ?_
 refine wp_seq ?_
 refine region_St (bf := [0]) (sp := [det _ 15 _]) [io r0] mixed st7 (by kernel_rfl) ⟨r0, trivial⟩
  ⟨Ob.d fun c => r_assign rfl rfl, trivial⟩ ?_
 intro a8 w8 τ8 st8 f8
 obtain ⟨e0, e8, e9, e12, e13, e14, -⟩ := f8.ks [(0, _), (8, _), (9, _), (12, _), (13, _), (14, _)] ⟨e0, e8, e9, e12, e13, e14, trivial⟩
 have e15 : get a8 15 = (.int .i64 (0)) := f8.v 0 rfl
 replace r0 := f8.io 0 rfl
 clear f8
 show Code.wp _ _ _ a8 w8
 refine wp_block ?_
 refine wp_loop (fun a_ w_ => ∃ (k : Nat) (τ : Nat → Foot), (k ≤ 2) ∧
      St (Nw w) w 95 a_ w_ τ ∧
      get a_ 15 = (.int .i64 ((k : Int))) ∧
      get a_ 0 = (.string (s)) ∧
      get a_ 9 = b4x9 ∧
      get a_ 12 = (.int .i64 (min (lowF a ((s.size : Int) + 1)) (lowF b ((s.size : Int) + 1)))) ∧
      get a_ 13 = (.int .i64 (max (lowF a ((s.size : Int) + 1)) (lowF b ((s.size : Int) + 1)))) ∧
      get a_ 14 = (.int .i64 (grown (s.size : Int) (apF (s.size : Int) xs))) ∧
      ownR EditE 45 (apF (s.size : Int) xs) (τ 0) b4x9 w_) (fun a_ _ => 2 - (intOf (get a_ 15)).toNat) ?_ ?_
 · refine ⟨0, τ8, ?_, st8, (e15.trans (int_eq (by omega))), e0, e9, e12, e13, e14, r0⟩
   · omega
 intro a9 w9 hI
 obtain ⟨k, τ9, q0, st9, e15, e0, e9, e12, e13, e14, r0⟩ := hI
 have m15 := e15
 refine wp_seq ?_
 refine wp_seq ?_
 refine region_St (bf := [0, 1]) (sp := [det _ 46 _, det _ 47 _]) [io r0] mixed st9 (by kernel_rfl) ⟨r0, trivial⟩
  ⟨Ob.d fun c => r_move rfl (c.p e15),
  Ob.d fun c => r_lss rfl (c.n 0 rfl) rfl, trivial⟩ ?_
 intro a10 w10 τ10 st10 f10
 obtain ⟨e0, e9, e12, e13, e14, e15, -⟩ := f10.ks [(0, _), (9, _), (12, _), (13, _), (14, _), (15, _)] ⟨e0, e9, e12, e13, e14, e15, trivial⟩
 have e47 : get a10 47 = (.bool (decide ((k : Int) < 2))) := f10.v 1 rfl
 replace r0 := f10.io 0 rfl
 clear f10
 show Code.wp _ _ _ a10 w10
 refine wp_cond_split (t := decide ((k : Int) < 2)) e47 (fun hc2 => ?_) (fun hc2 => ?_)
 · try simp only [decide_eq_true_eq] at hc2
   refine wp_skip ?_
   show Code.wp _ _ _ a10 w10
   refine wp_seq ?_
   refine wp_block ?_
   refine wp_seq ?_
   refine region_St (bf := [0, 0, 2, 0, 15, 0, 0, 64, 0, 511, 1023, 2047]) (sp := [det _ 50 _, det _ 51 _, det _ 52 _, det _ 53 _, det _ 54 _, det _ 55 _, det _ 56 _, det _ 57 _, det _ 58 _, det _ 59 _, det _ 16 _, det _ 17 _]) [io r0] mixed st10 (by kernel_rfl) ⟨r0, trivial⟩
    ⟨Ob.d fun c => r_move rfl (c.p e12),
    Ob.d fun c => r_move rfl (c.p e15),
    Ob.d fun c => r_eql rfl (c.n 1 rfl) rfl,
    Ob.d fun c => r_move rfl (c.p e9),
    Ob.c fun c => ⟨_, _, (e_call3 rfl rfl Try.call27 (c.n 0 rfl) (c.n 2 rfl) (c.n 3 rfl)), moveE_c (min (lowF a ((s.size : Int) + 1)) (lowF b ((s.size : Int) + 1))) (decide ((k : Int) = 1)) b4x9 (apF (s.size : Int) xs) _ (c.io 0 rfl).1.sl (by omega)⟩,
    Ob.d fun c => r_move rfl (c.p e13),
    Ob.d fun c => r_move rfl (c.p e15),
    Ob.d fun c => r_eql rfl (c.n 6 rfl) rfl,
    Ob.d fun c => r_move rfl (c.p e9),
    Ob.c fun c => ⟨_, _, (e_call3 rfl rfl Try.call27 (c.n 5 rfl) (c.n 7 rfl) (c.n 8 rfl)), moveE_c (max (lowF a ((s.size : Int) + 1)) (lowF b ((s.size : Int) + 1))) (decide ((k : Int) = 1)) b4x9 (apF (s.size : Int) xs) _ (c.io 0 rfl).1.sl (by omega)⟩,
    Ob.d fun c => r_assign rfl (c.n 4 rfl),
    Ob.d fun c => r_assign rfl (c.n 9 rfl), trivial⟩ ?_
   intro a11 w11 τ11 st11 f11
   obtain ⟨e0, e9, e12, e13, e14, e15, e47, -⟩ := f11.ks [(0, _), (9, _), (12, _), (13, _), (14, _), (15, _), (47, _)] ⟨e0, e9, e12, e13, e14, e15, e47, trivial⟩
   have e16 : get a11 16 = (.int .i64 (moveW (min (lowF a ((s.size : Int) + 1)) (lowF b ((s.size : Int) + 1))) (decide ((k : Int) = 1)) (apF (s.size : Int) xs))) := f11.v 10 rfl
   have e17 : get a11 17 = (.int .i64 (moveW (max (lowF a ((s.size : Int) + 1)) (lowF b ((s.size : Int) + 1))) (decide ((k : Int) = 1)) (apF (s.size : Int) xs))) := f11.v 11 rfl
   replace r0 := f11.io 0 rfl
   clear f11
   replace e16 := e16.trans (int_eq (show moveW (min (lowF a ((s.size : Int) + 1)) (lowF b ((s.size : Int) + 1))) (decide ((k : Int) = 1)) (apF (s.size : Int) xs) = (mvL (decide ((k : Int) = 1)) (min (lowF a ((s.size : Int) + 1)) (lowF b ((s.size : Int) + 1))) (apF (s.size : Int) xs) : Int) from by exact (moveW_eq hap (List.Perm.refl _) (by omega) (by omega) (by omega) (by omega)).1))
   replace e17 := e17.trans (int_eq (show moveW (max (lowF a ((s.size : Int) + 1)) (lowF b ((s.size : Int) + 1))) (decide ((k : Int) = 1)) (apF (s.size : Int) xs) = (mvL (decide ((k : Int) = 1)) (max (lowF a ((s.size : Int) + 1)) (lowF b ((s.size : Int) + 1))) (apF (s.size : Int) xs) : Int) from by exact (moveW_eq hap (List.Perm.refl _) (by omega) (by omega) (by omega) (by omega)).1))
   have hri := rises (r := (decide ((k : Int) = 1))) hap (lo := (min (lowF a ((s.size : Int) + 1)) (lowF b ((s.size : Int) + 1)))) (hi := (max (lowF a ((s.size : Int) + 1)) (lowF b ((s.size : Int) + 1)))) (by omega) (by omega) (by omega)
   show Code.wp _ _ _ a11 w11
   refine wp_seq ?_
   refine region_St (bf := [0, 0, 3, 7, 15, 31, 63, 127, 255, 255, 1023, 2047, 4095, 8191, 8191, 32767, 8191, 8191, 262143, 524287, 1048575]) (sp := [det _ 60 _, det _ 61 _, det _ 62 (.bool (false)), det _ 63 _, det _ 64 _, det _ 65 (.bool (false)), det _ 66 _, det _ 67 _, det _ 68 _, det _ 69 _, det _ 70 (.bool (false)), det _ 71 _, det _ 72 _, det _ 73 _, det _ 74 _, det _ 75 _, det _ 76 _, det _ 77 _, det _ 78 _, det _ 79 (.bool (false)), det _ 80 _]) [io r0] mixed st11 (by kernel_rfl) ⟨r0, trivial⟩
    ⟨Ob.d fun c => r_move rfl (c.p e16),
    Ob.d fun c => r_move rfl (c.p e17),
    Ob.d (v := (.bool (false))) fun c => Runs.isB (b := decide (mvL (decide ((k : Int) = 1)) (max (lowF a ((s.size : Int) + 1)) (lowF b ((s.size : Int) + 1))) (apF (s.size : Int) xs) < mvL (decide ((k : Int) = 1)) (min (lowF a ((s.size : Int) + 1)) (lowF b ((s.size : Int) + 1))) (apF (s.size : Int) xs))) (r_gtr rfl (c.n 0 rfl) (c.n 1 rfl)) (by exact decide_eq_false (by omega)),
    Ob.d fun c => r_move rfl (c.n 2 rfl),
    Ob.lv 3 (Ob.d fun c => r_move rfl (c.p e16)),
    Ob.lv 3 (Ob.d (v := (.bool (false))) fun c => Runs.isB (b := decide (mvL (decide ((k : Int) = 1)) (min (lowF a ((s.size : Int) + 1)) (lowF b ((s.size : Int) + 1))) (apF (s.size : Int) xs) < 0)) (r_lss rfl (c.n 4 rfl) rfl) (by exact decide_eq_false (by omega))),
    Ob.d fun c => r_pick rfl (c.n 3 rfl) (fun h => by cases h) (fun _ => c.n 5 rfl),
    Ob.d fun c => r_move rfl (c.n 6 rfl),
    Ob.lv 7 (Ob.d fun c => r_move rfl (c.p e17)),
    Ob.lv 7 (Ob.d fun c => r_move rfl (c.p e14)),
    Ob.lv 7 (Ob.d (v := (.bool (false))) fun c => Runs.isB (b := decide (grown (s.size : Int) (apF (s.size : Int) xs) < mvL (decide ((k : Int) = 1)) (max (lowF a ((s.size : Int) + 1)) (lowF b ((s.size : Int) + 1))) (apF (s.size : Int) xs))) (r_gtr rfl (c.n 8 rfl) (c.n 9 rfl)) (by exact decide_eq_false (by omega))),
    Ob.d fun c => r_pick rfl (c.n 7 rfl) (fun h => by cases h) (fun _ => c.n 10 rfl),
    Ob.d fun c => r_move rfl (c.n 11 rfl),
    Ob.lv 12 (Ob.d fun c => r_move rfl (c.p e12)),
    Ob.lv 12 (Ob.d fun c => r_move rfl (c.p e9)),
    Ob.lv 12 (Ob.c fun c => ⟨_, _, (e_call3 rfl rfl Try.call27 (c.n 13 rfl) rfl (c.n 14 rfl)), moveE_c (min (lowF a ((s.size : Int) + 1)) (lowF b ((s.size : Int) + 1))) false b4x9 (apF (s.size : Int) xs) _ (c.io 0 rfl).1.sl (by omega)⟩),
    Ob.lv 12 (Ob.d fun c => r_move rfl (c.p e12)),
    Ob.lv 12 (Ob.d fun c => r_move rfl (c.p e9)),
    Ob.lv 12 (Ob.c fun c => ⟨_, _, (e_call3 rfl rfl Try.call27 (c.n 16 rfl) rfl (c.n 17 rfl)), moveE_c (min (lowF a ((s.size : Int) + 1)) (lowF b ((s.size : Int) + 1))) true b4x9 (apF (s.size : Int) xs) _ (c.io 0 rfl).1.sl (by omega)⟩),
    Ob.lv 12 (Ob.d (v := (.bool (false))) fun c => Runs.isB (b := decide (moveW (min (lowF a ((s.size : Int) + 1)) (lowF b ((s.size : Int) + 1))) true (apF (s.size : Int) xs) < moveW (min (lowF a ((s.size : Int) + 1)) (lowF b ((s.size : Int) + 1))) false (apF (s.size : Int) xs))) (r_gtr rfl (c.n 15 rfl) (c.n 18 rfl)) (by exact decide_eq_false (by rw [(moveW_eq hap (List.Perm.refl _) (by omega) (by omega) (by omega) (by omega)).1, (moveW_eq hap (List.Perm.refl _) (by omega) (by omega) (by omega) (by omega)).1]; omega))),
    Ob.d fun c => r_pick rfl (c.n 12 rfl) (fun h => by cases h) (fun _ => c.n 19 rfl), trivial⟩ ?_
   intro a12 w12 τ12 st12 f12
   obtain ⟨e0, e9, e12, e13, e14, e15, e16, e17, e47, -⟩ := f12.ks [(0, _), (9, _), (12, _), (13, _), (14, _), (15, _), (16, _), (17, _), (47, _)] ⟨e0, e9, e12, e13, e14, e15, e16, e17, e47, trivial⟩
   have e80 : get a12 80 = (.bool (false)) := f12.v 20 rfl
   replace r0 := f12.io 0 rfl
   clear f12
   show Code.wp _ _ _ a12 w12
   refine wp_cond_false e80 ?_
   refine wp_skip ?_
   show _
   show Code.wp _ _ _ a12 w12
   refine region_St (bf := [0, 1, 3]) (sp := [det _ 48 _, det _ 49 _, det _ 15 _]) [io r0] mixed st12 (by kernel_rfl) ⟨r0, trivial⟩
    ⟨Ob.d fun c => r_move rfl (c.p e15),
    Ob.d fun c => r_add rfl (c.n 0 rfl) rfl (by omega),
    Ob.d fun c => r_assign rfl (c.n 1 rfl), trivial⟩ ?_
   intro a13 w13 τ13 st13 f13
   obtain ⟨e0, e9, e12, e13, e14, e16, e17, e47, e80, -⟩ := f13.ks [(0, _), (9, _), (12, _), (13, _), (14, _), (16, _), (17, _), (47, _), (80, _)] ⟨e0, e9, e12, e13, e14, e16, e17, e47, e80, trivial⟩
   have e15 : get a13 15 = (.int .i64 ((k : Int) + 1)) := f13.v 2 rfl
   replace r0 := f13.io 0 rfl
   clear f13
   refine ⟨⟨k + 1, τ13, ?_, st13, (e15.trans (int_eq (by omega))), e0, e9, e12, e13, e14, r0⟩, ?_⟩
   · omega
   · simp only [m15, e15, intOf]; omega
 try simp only [decide_eq_false_iff_not, Int.not_lt] at hc2
 refine wp_exit ?_
 repeat (with_reducible refine then_exit ?_)
 refine exit_here ?_
 show Code.wp _ _ _ a10 w10
 refine wp_seq ?_
 refine region_St (bf := [0, 1, 0, 7, 0, 31, 63, 127, 255, 511, 1023, 2047, 4095, 8191, 16383]) (sp := [det _ 81 _, det _ 82 _, det _ 83 _, det _ 84 _, det _ 85 _, det _ 86 _, det _ 87 _, gdet _ 88 _ _, gdet _ 89 _ _, gdet _ 90 _ _, det _ 91 _, det _ 92 _, gdet _ 93 _ _, det _ 94 _, det _ 8 _]) [io r0] mixed st10 (by kernel_rfl) ⟨r0, trivial⟩
  ⟨Ob.d fun c => r_move rfl (c.p e0),
  Ob.d fun c => r_lenS rfl Try.underlying9 (c.n 0 rfl),
  Ob.d fun c => r_move rfl (c.p e9),
  Ob.c fun c => ⟨_, _, (e_call3 rfl rfl Try.call27 (c.n 1 rfl) rfl (c.n 2 rfl)), moveE_c (s.size : Int) true b4x9 (apF (s.size : Int) xs) _ (c.io 0 rfl).1.sl (by omega)⟩,
  Ob.d fun c => r_move rfl (c.p e14),
  Ob.d fun c => r_eql rfl (c.n 3 rfl) (c.n 4 rfl),
  Ob.d fun c => r_move rfl (c.n 5 rfl),
  Ob.g 6 true rfl fun c hpc => r_move rfl (c.p e9),
  Ob.gc 6 true rfl fun c hpc => ⟨_, _, (e_call3 rfl rfl Try.call27 rfl rfl (c.m 7 rfl hpc)), moveE_c 0 false b4x9 (apF (s.size : Int) xs) _ (c.io 0 rfl).1.sl (by have hq0 := bt hpc; omega)⟩,
  Ob.g 6 true rfl fun c hpc => r_eql rfl (c.m 8 rfl hpc) rfl,
  Ob.d fun c => r_and rfl (c.n 6 rfl) (fun h => c.m 9 rfl h),
  Ob.d fun c => r_move rfl (c.n 10 rfl),
  Ob.gc 11 true rfl fun c hpc => ⟨_, _, (e_call0 rfl rfl Try.call14), awake_c _⟩,
  Ob.d fun c => r_and rfl (c.n 11 rfl) (fun h => c.m 12 rfl h),
  Ob.d fun c => r_assign rfl (c.n 13 rfl), trivial⟩ ?_
 intro a14 w14 τ14 st14 f14
 have e8 : get a14 8 = (.bool (((decide (moveW (s.size : Int) true (apF (s.size : Int) xs) = grown (s.size : Int) (apF (s.size : Int) xs))) && (decide (moveW 0 false (apF (s.size : Int) xs) = 0))) && true)) := f14.v 14 rfl
 clear f14
 show Code.wp _ _ _ a14 w14
 refine wp_ret ?_
 repeat (first | with_reducible refine then_ret ?_ | with_reducible refine block_ret ?_)
 refine ret1 (fn := Try.f8) rfl st14.defers e8 ?_
 exact ⟨congrArg _ (congrArg _ (show (((decide (moveW (s.size : Int) true (apF (s.size : Int) xs) = grown (s.size : Int) (apF (s.size : Int) xs))) && (decide (moveW 0 false (apF (s.size : Int) xs) = 0))) && true) = true from by rw [(moveW_eq hap (List.Perm.refl _) (by omega) (by omega) (by omega) (by omega)).1, (moveW_eq (n := 0) hap (List.Perm.refl _) (by omega) (by omega) (by omega) (by omega)).1, mv_end hap, mv_zero hap]; simp)), st14.ext0⟩
end B
end Go.Proofs.Ytfkjmkngiiokmaa
