/-
  Walks, printed by a program (gen.py): LMoveSingly.
-/
import Derived.Test.YtfkjmkngiiokmaaChC
import Derived.Test.YtfkjmkngiiokmaaChgL
set_option linter.unusedSimpArgs false
set_option linter.unusedVariables false
namespace Go.Proofs.Ytfkjmkngiiokmaa
namespace B
open Go.RowKit
open Srt
set_option maxRecDepth 100000 in
set_option maxHeartbeats 4000000 in
theorem moveSingly_c (n : Int) (r : Bool) (v : Value) (xs : List (Int × Int × ByteArray)) (b : Int) (w : World) (hS : SlT EditE w v xs) : Calls Try.prog 7 #[(.int .i64 (n)), (.bool (r)), v, (.int .i64 (b))] w (fun e w' => e = .returned (.bool (true)) ∧ Ext none' w w') := by
 refine enter (n := 48) Try.func7 rfl rfl (Nat.le_of_ble_eq_true rfl) ?_
 intro a0 τ0 ha st0
 have e0 : get a0 0 = (.int .i64 (n)) := ha 0 _ rfl
 have e1 : get a0 1 = (.bool (r)) := ha 1 _ rfl
 have e2 : get a0 2 = v := ha 2 _ rfl
 have e3 : get a0 3 = (.int .i64 (b)) := ha 3 _ rfl
 clear ha
 refine wp_seq ?_
 refine region_St (bf := [0]) (sp := [det _ 8 _]) [] mixed st0 (by kernel_rfl) trivial
  ⟨Ob.d fun c => r_assign rfl rfl, trivial⟩ ?_
 intro a1 w1 τ1 st1 f1
 obtain ⟨e0, e1, e2, e3, -⟩ := f1.ks [(0, _), (1, _), (2, _), (3, _)] ⟨e0, e1, e2, e3, trivial⟩
 have e8 : get a1 8 = (.bool (false)) := f1.v 0 rfl
 clear f1
 show Code.wp _ _ _ a1 w1
 refine wp_seq ?_
 refine wp_seq ?_
 refine region_St (bf := [0, 1, 3, 7, 15, 31]) (sp := [det _ 12 _, det _ 13 _, det _ 14 _, gdet _ 15 _ _, gdet _ 16 _ _, det _ 17 _]) [] mixed st1 (by kernel_rfl) trivial
  ⟨Ob.d fun c => r_move rfl (c.p e0),
  Ob.d fun c => r_lss rfl (c.n 0 rfl) rfl,
  Ob.d fun c => r_move rfl (c.n 1 rfl),
  Ob.g 2 false rfl fun c hpc => r_move rfl (c.p e0),
  Ob.g 2 false rfl fun c hpc => r_gtr rfl (c.m 3 rfl hpc) rfl,
  Ob.d fun c => r_or rfl (c.n 2 rfl) (fun h => c.m 4 rfl h), trivial⟩ ?_
 intro a2 w2 τ2 st2 f2
 obtain ⟨e0, e1, e2, e3, e8, -⟩ := f2.ks [(0, _), (1, _), (2, _), (3, _), (8, _)] ⟨e0, e1, e2, e3, e8, trivial⟩
 have e17 : get a2 17 = (.bool ((decide (n < (-1099511627776))) || (decide (1099511627776 < n)))) := f2.v 5 rfl
 clear f2
 show Code.wp _ _ _ a2 w2
 refine wp_cond_split (t := (decide (n < (-1099511627776))) || (decide (1099511627776 < n))) e17 (fun hc1 => ?_) (fun hc1 => ?_)
 · try simp only [Bool.or_eq_true, decide_eq_true_eq] at hc1
   refine wp_seq ?_
   refine region_St (bf := [0, 1]) (sp := [det _ 18 _, det _ 8 _]) [] mixed st2 (by kernel_rfl) trivial
    ⟨Ob.c fun c => ⟨_, _, (e_call0 rfl rfl Try.call14), awake_c _⟩,
    Ob.d fun c => r_assign rfl (c.n 0 rfl), trivial⟩ ?_
   intro a3 w3 τ3 st3 f3
   obtain ⟨e0, e1, e2, e3, -⟩ := f3.ks [(0, _), (1, _), (2, _), (3, _)] ⟨e0, e1, e2, e3, trivial⟩
   have e8 : get a3 8 = (.bool (true)) := f3.v 1 rfl
   clear f3
   show Code.wp _ _ _ a3 w3
   refine wp_ret ?_
   repeat (first | with_reducible refine then_ret ?_ | with_reducible refine block_ret ?_)
   refine ret1 (fn := Try.f7) rfl st3.defers e8 ?_
   exact ⟨rfl, st3.ext0⟩
 try simp only [Bool.or_eq_false_iff, decide_eq_false_iff_not, Int.not_lt] at hc1
 refine wp_skip ?_
 show Code.wp _ _ _ a2 w2
 refine wp_seq ?_
 obtain ⟨hn1, hn2⟩ := (by assumption : (-1099511627776 : Int) ≤ n ∧ n ≤ 1099511627776)
 refine region_St (bf := [0, 1, 3]) (sp := [det _ 19 _, own _ _ _ 0 20 _, own _ _ _ 0 9 _]) [] mixed st2 (by kernel_rfl) trivial
  ⟨Ob.d fun c => r_move rfl (c.p e2),
  Ob.callOwn rfl rfl rfl (fun _ a_ _ _ c => ⟨_, _, (e_call2 rfl rfl Try.call24 rfl (c.n 0 rfl)), apartP_c 100 v xs _ (hS.at (st2.ext.trans c.J.ext)) (by first | omega | (simp only [List.length_cons, List.length_nil]; omega)) (by first | omega | (simp only [List.length_cons, List.length_nil]; omega))⟩),
  Ob.moveT (t0 := 20) rfl rfl rfl rfl rfl (.inr rfl) (fun _ _ _ _ c => ⟨c.ro 1 rfl, rfl⟩), trivial⟩ ?_
 intro a4 w4 τ4 st4 f4
 obtain ⟨b4x9, e9⟩ : ∃ b, get a4 9 = b := ⟨_, rfl⟩
 obtain ⟨e0, e1, e3, e8, -⟩ := f4.ks [(0, _), (1, _), (3, _), (8, _)] ⟨e0, e1, e3, e8, trivial⟩
 have r0 : ownR EditE 45 (apF 100 xs) (τ4 0) b4x9 w4 := f4.ro 2 e9 rfl
 clear f4
 obtain ⟨hap, hez, hel⟩ := apF_ap (n := (100 : Int)) (by omega) xs
 have hrp := rotE_perm (apF (100 : Int) xs) b
 have hrz := sizes_perm hrp
 have hrl := hrp.length_eq
 show Code.wp _ _ _ a4 w4
 refine wp_seq ?_
 refine region_St (bf := [0, 1]) (sp := [det _ 21 _, det _ 10 _]) [io r0] mixed st4 (by kernel_rfl) ⟨r0, trivial⟩
  ⟨Ob.d fun c => r_move rfl (c.p e0),
  Ob.d fun c => r_assign rfl (c.n 0 rfl), trivial⟩ ?_
 intro a5 w5 τ5 st5 f5
 obtain ⟨e0, e1, e3, e8, e9, -⟩ := f5.ks [(0, _), (1, _), (3, _), (8, _), (9, _)] ⟨e0, e1, e3, e8, e9, trivial⟩
 have e10 : get a5 10 = (.int .i64 (n)) := f5.v 1 rfl
 replace r0 := f5.io 0 rfl
 clear f5
 show Code.wp _ _ _ a5 w5
 refine wp_seq ?_
 refine wp_seq ?_
 refine region_St (bf := [0, 1, 3, 7]) (sp := [det _ 22 _, det _ 23 _, det _ 24 _, det _ 11 _]) [io r0] mixed st5 (by kernel_rfl) ⟨r0, trivial⟩
  ⟨Ob.d fun c => r_move rfl (c.p e9),
  Ob.d fun c => r_len rfl Try.underlying22 (c.n 0 rfl) r0.isSl,
  Ob.d fun c => r_sub rfl (c.n 1 rfl) rfl (by first | omega | (simp only [List.length_cons, List.length_nil]; omega)),
  Ob.d fun c => r_assign rfl (c.n 2 rfl), trivial⟩ ?_
 intro a6 w6 τ6 st6 f6
 obtain ⟨e0, e1, e3, e8, e9, e10, -⟩ := f6.ks [(0, _), (1, _), (3, _), (8, _), (9, _), (10, _)] ⟨e0, e1, e3, e8, e9, e10, trivial⟩
 have e11 : get a6 11 = (.int .i64 (((apF 100 xs).length : Int) - 1)) := f6.v 3 rfl
 replace r0 := f6.io 0 rfl
 clear f6
 show Code.wp _ _ _ a6 w6
 refine wp_block ?_
 refine wp_loop (fun a_ w_ => ∃ (m : Nat) (τ : Nat → Foot), (m ≤ (apF (100 : Int) xs).length) ∧
      St (Nw w) w 48 a_ w_ τ ∧
      get a_ 10 = (.int .i64 (mvL r n ((apF (100 : Int) xs).drop m))) ∧
      get a_ 11 = (.int .i64 ((m : Int) - 1)) ∧
      get a_ 0 = (.int .i64 (n)) ∧
      get a_ 1 = (.bool (r)) ∧
      get a_ 3 = (.int .i64 (b)) ∧
      get a_ 8 = (.bool (false)) ∧
      get a_ 9 = b4x9 ∧
      ownR EditE 45 (apF 100 xs) (τ 0) b4x9 w_) (fun a_ _ => (intOf (get a_ 11) + 1).toNat) ?_ ?_
 · refine ⟨(apF (100 : Int) xs).length, τ6, ?_, st6, (e10.trans (int_eq (by first | omega | (rw [List.drop_of_length_le (Nat.le_refl _)]; rfl) | exact move_step hap (by omega) (by omega) hn1 hn2 (by omega) q0))), (e11.trans (int_eq (by first | omega | (rw [List.drop_of_length_le (Nat.le_refl _)]; rfl) | exact move_step hap (by omega) (by omega) hn1 hn2 (by omega) q0))), e0, e1, e3, e8, e9, r0⟩
   · omega
 intro a7 w7 hI
 obtain ⟨m, τ7, q0, st7, e10, e11, e0, e1, e3, e8, e9, r0⟩ := hI
 have m11 := e11
 refine wp_seq ?_
 refine wp_seq ?_
 refine region_St (bf := [0, 1]) (sp := [det _ 25 _, det _ 26 _]) [io r0] mixed st7 (by kernel_rfl) ⟨r0, trivial⟩
  ⟨Ob.d fun c => r_move rfl (c.p e11),
  Ob.d fun c => r_geq rfl (c.n 0 rfl) rfl, trivial⟩ ?_
 intro a8 w8 τ8 st8 f8
 obtain ⟨e0, e1, e3, e8, e9, e10, e11, -⟩ := f8.ks [(0, _), (1, _), (3, _), (8, _), (9, _), (10, _), (11, _)] ⟨e0, e1, e3, e8, e9, e10, e11, trivial⟩
 have e26 : get a8 26 = (.bool (decide (0 ≤ (m : Int) - 1))) := f8.v 1 rfl
 replace r0 := f8.io 0 rfl
 clear f8
 show Code.wp _ _ _ a8 w8
 refine wp_cond_split (t := decide (0 ≤ (m : Int) - 1)) e26 (fun hc2 => ?_) (fun hc2 => ?_)
 · try simp only [decide_eq_true_eq] at hc2
   refine wp_skip ?_
   show Code.wp _ _ _ a8 w8
   refine wp_seq ?_
   refine wp_block ?_
   refine region_St (bf := [0, 0, 0, 0, 12, 28, 60, 127, 255]) (sp := [det _ 29 _, det _ 30 _, det _ 31 _, det _ 32 _, det _ 33 _, det _ 34 _, own EditE 45 _ 1 35 ([(nth (apF 100 xs) ((m : Int) - 1))]), det _ 36 _, det _ 10 _]) [io r0] mixed st8 (by kernel_rfl) ⟨r0, trivial⟩
    ⟨Ob.d fun c => r_move rfl (c.p e10),
    Ob.d fun c => r_move rfl (c.p e1),
    Ob.d fun c => r_move rfl (c.p e9),
    Ob.d fun c => r_move rfl (c.p e11),
    Ob.d fun c => r_indexAddr rfl Try.underlying22 Try.sizeOf45 (c.n 2 rfl) r0.isSl (c.n 3 rfl) (by first | omega | (simp only [List.length_cons, List.length_nil]; omega)) (by first | omega | (simp only [List.length_cons, List.length_nil]; omega)),
    Ob.d fun c => r_loadN (vs := [(.int .i64 ((nth (apF 100 xs) ((m : Int) - 1)).1)), (.int .i64 ((nth (apF 100 xs) ((m : Int) - 1)).2.1)), (.string ((nth (apF 100 xs) ((m : Int) - 1)).2.2))]) rfl Try.isAgg45 Try.sizeOf45 (c.n 4 rfl) rfl (fun _ _ hj => ((c.io 0 rfl).1.sl).elem (nth_some (i := (m : Int) - 1) (by first | omega | (simp only [List.length_cons, List.length_nil]; omega)) (by first | omega | (simp only [List.length_cons, List.length_nil]; omega))) hj),
    Ob.buildSlice (cells := #[(.int .i64 ((nth (apF 100 xs) ((m : Int) - 1)).1)), (.int .i64 ((nth (apF 100 xs) ((m : Int) - 1)).2.1)), (.string ((nth (apF 100 xs) ((m : Int) - 1)).2.2))]) rfl rfl rfl rfl Try.underlying22 Try.sizeOf45 Try.zeroValue45 rfl (by decide) (by decide) (fun _ _ _ _ c => fill1 (c.n 5 rfl) (by kernel_rfl)) rfl,
    Ob.c fun c => ⟨_, _, (e_call3 rfl rfl Try.call27 (c.n 0 rfl) (c.n 1 rfl) (eval_tmp _ 35)), moveE_c (mvL r n ((apF (100 : Int) xs).drop m)) r _ ([(nth (apF 100 xs) ((m : Int) - 1))]) _ (c.ro 6 rfl).1.sl (by first | omega | (simp only [List.length_cons, List.length_nil]; omega))⟩,
    Ob.d fun c => r_assign rfl (c.n 7 rfl), trivial⟩ ?_
   intro a9 w9 τ9 st9 f9
   obtain ⟨b9x35, e35⟩ : ∃ b, get a9 35 = b := ⟨_, rfl⟩
   obtain ⟨e0, e1, e3, e8, e9, e11, e26, -⟩ := f9.ks [(0, _), (1, _), (3, _), (8, _), (9, _), (11, _), (26, _)] ⟨e0, e1, e3, e8, e9, e11, e26, trivial⟩
   have e10 : get a9 10 = (.int .i64 (moveW (mvL r n ((apF (100 : Int) xs).drop m)) r ([(nth (apF 100 xs) ((m : Int) - 1))]))) := f9.v 8 rfl
   replace r0 := f9.io 0 rfl
   have r1 : ownR EditE 45 ([(nth (apF 100 xs) ((m : Int) - 1))]) (τ9 1) b9x35 w9 := f9.ro 6 e35 rfl
   clear f9
   show _
   show Code.wp _ _ _ a9 w9
   refine region_St (bf := [0, 1, 3]) (sp := [det _ 27 _, det _ 28 _, det _ 11 _]) [io r0, io r1] mixed st9 (by kernel_rfl) ⟨r0, r1, trivial⟩
    ⟨Ob.d fun c => r_move rfl (c.p e11),
    Ob.d fun c => r_sub rfl (c.n 0 rfl) rfl (by first | omega | (simp only [List.length_cons, List.length_nil]; omega)),
    Ob.d fun c => r_assign rfl (c.n 1 rfl), trivial⟩ ?_
   intro a10 w10 τ10 st10 f10
   obtain ⟨e0, e1, e3, e8, e9, e10, e26, -⟩ := f10.ks [(0, _), (1, _), (3, _), (8, _), (9, _), (10, _), (26, _)] ⟨e0, e1, e3, e8, e9, e10, e26, trivial⟩
   have e11 : get a10 11 = (.int .i64 ((m : Int) - 1 - 1)) := f10.v 2 rfl
   replace r0 := f10.io 0 rfl
   replace r1 := f10.io 1 rfl
   clear f10
   refine ⟨⟨m - 1, τ10, ?_, st10, (e10.trans (int_eq (by first | omega | (rw [List.drop_of_length_le (Nat.le_refl _)]; rfl) | exact move_step hap (by omega) (by omega) hn1 hn2 (by omega) q0))), (e11.trans (int_eq (by first | omega | (rw [List.drop_of_length_le (Nat.le_refl _)]; rfl) | exact move_step hap (by omega) (by omega) hn1 hn2 (by omega) q0))), e0, e1, e3, e8, e9, r0⟩, ?_⟩
   · omega
   · simp only [m11, e11, intOf]; omega
 try simp only [decide_eq_false_iff_not, Int.not_le] at hc2
 refine wp_exit ?_
 repeat (with_reducible refine then_exit ?_)
 refine exit_here ?_
 show Code.wp _ _ _ a8 w8
 refine wp_seq ?_
 refine region_St (bf := [0, 0, 0, 0, 12, 31, 0, 127, 255, 511, 1023, 2047]) (sp := [det _ 37 _, det _ 38 _, det _ 39 _, det _ 40 _, own _ _ _ 1 41 _, det _ 42 _, det _ 43 _, det _ 44 _, det _ 45 _, gdet _ 46 _ _, det _ 47 _, det _ 8 _]) [io r0] mixed st8 (by kernel_rfl) ⟨r0, trivial⟩
  ⟨Ob.d fun c => r_move rfl (c.p e0),
  Ob.d fun c => r_move rfl (c.p e1),
  Ob.d fun c => r_move rfl (c.p e9),
  Ob.d fun c => r_move rfl (c.p e3),
  Ob.callOwn rfl rfl rfl (fun _ a_ _ _ c => ⟨_, _, (e_call2 rfl rfl Try.call25 (c.n 2 rfl) (c.n 3 rfl)), turned_c b4x9 (apF 100 xs) b _ (c.io 0 rfl).1.sl (by first | omega | (simp only [List.length_cons, List.length_nil]; omega))⟩),
  Ob.c fun c => ⟨_, _, (e_call3 rfl rfl Try.call27 (c.n 0 rfl) (c.n 1 rfl) (eval_tmp _ 41)), moveE_c n r _ (rotE (apF 100 xs) b) _ (c.ro 4 rfl).1.sl (by first | omega | (simp only [List.length_cons, List.length_nil]; omega))⟩,
  Ob.d fun c => r_move rfl (c.p e10),
  Ob.d fun c => r_eql rfl (c.n 5 rfl) (c.n 6 rfl),
  Ob.d fun c => r_move rfl (c.n 7 rfl),
  Ob.gc 8 true rfl fun c hpc => ⟨_, _, (e_call0 rfl rfl Try.call14), awake_c _⟩,
  Ob.d fun c => r_and rfl (c.n 8 rfl) (fun h => c.m 9 rfl h),
  Ob.d fun c => r_assign rfl (c.n 10 rfl), trivial⟩ ?_
 intro a11 w11 τ11 st11 f11
 obtain ⟨b11x41, e41⟩ : ∃ b, get a11 41 = b := ⟨_, rfl⟩
 have e8 : get a11 8 = (.bool ((decide (moveW n r (rotE (apF 100 xs) b) = mvL r n ((apF (100 : Int) xs).drop m))) && true)) := f11.v 11 rfl
 clear f11
 show Code.wp _ _ _ a11 w11
 refine wp_ret ?_
 repeat (first | with_reducible refine then_ret ?_ | with_reducible refine block_ret ?_)
 refine ret1 (fn := Try.f7) rfl st11.defers e8 ?_
 exact ⟨congrArg _ (congrArg _ (show ((decide (moveW n r (rotE (apF 100 xs) b) = mvL r n ((apF (100 : Int) xs).drop m))) && true) = true from by obtain rfl : m = 0 := (by omega); rw [(moveW_eq hap hrp (by omega) (by omega) (by omega) (by omega)).1, List.drop_zero]; simp)), st11.ext0⟩
end B
end Go.Proofs.Ytfkjmkngiiokmaa
