/-
  Walks, printed by a program (gen.py): LSetNamed.
-/
import Derived.Test.YthaeepiichphjaaSetF
import Derived.Test.YthaeepiichphjaaRowP
set_option linter.unusedSimpArgs false
set_option linter.unusedVariables false
namespace Go.Proofs.Ythaeepiichphjaa
namespace B
open Go.RowKit
open Srt
set_option maxRecDepth 100000 in
set_option maxHeartbeats 4000000 in
theorem setNamed_c (n : Int) (w : World) : Calls Try.prog 4 #[.int .u8 n] w (fun e w' => e = .returned (.bool (true)) ∧ Ext none' w w') := by
 refine enter (n := 32) Try.func4 rfl rfl (Nat.le_of_ble_eq_true rfl) ?_
 intro a0 τ0 ha st0
 have e0 : get a0 0 = (.int .u8 (n)) := ha 0 _ rfl
 clear ha
 have hns := named_small n
 have hnl := named_len n
 refine wp_seq ?_
 refine region_St (bf := [0]) (sp := [det _ 2 _]) [] mixed st0 (by kernel_rfl) trivial
  ⟨Ob.d fun c => r_assign rfl rfl, trivial⟩ ?_
 intro a1 w1 τ1 st1 f1
 obtain ⟨e0, -⟩ := f1.ks [(0, _)] ⟨e0, trivial⟩
 have e2 : get a1 2 = (.bool (false)) := f1.v 0 rfl
 clear f1
 show Code.wp _ _ _ a1 w1
 refine wp_seq ?_
 refine region_St (bf := [0, 1, 3, 7, 7, 15, 63]) (sp := [det _ 8 _, tup _ _ _ 0 9 _ _, tup _ _ _ 0 7 _ _, own _ _ _ 0 10 _, det _ 11 _, own _ _ _ 0 3 _, det _ 4 _]) [] mixed st1 (by kernel_rfl) trivial
  ⟨Ob.d fun c => r_move rfl (c.p e0),
  Ob.callTup rfl rfl rfl (fun _ a_ _ _ c => ⟨_, _, (e_call1 rfl rfl Try.call18 (c.n 0 rfl)), named_c n _⟩),
  Ob.moveT (t0 := 9) rfl rfl rfl rfl rfl (.inl rfl) (fun _ _ _ _ c => ⟨c.rtup 1 rfl rfl (by kernel_rfl), rfl⟩),
  Ob.part0 (t0 := 7) (k := (.bool (namedB n))) rfl rfl rfl rfl (fun _ _ _ _ c => c.rtup 2 rfl rfl (by kernel_rfl)),
  Ob.d fun c => c.part1 2 rfl rfl rfl,
  Ob.moveT (t0 := 10) rfl rfl rfl rfl rfl (.inr rfl) (fun _ _ _ _ c => ⟨c.ro 3 rfl, rfl⟩),
  Ob.d fun c => r_assign rfl (c.n 4 rfl), trivial⟩ ?_
 intro a2 w2 τ2 st2 f2
 obtain ⟨b2x3, e3⟩ : ∃ b, get a2 3 = b := ⟨_, rfl⟩
 obtain ⟨e0, e2, -⟩ := f2.ks [(0, _), (2, _)] ⟨e0, e2, trivial⟩
 have e4 : get a2 4 = (.bool (namedB n)) := f2.v 6 rfl
 have r0 : ownR RowE 36 (namedF n) (τ2 0) b2x3 w2 := f2.ro 5 e3 rfl
 clear f2
 show Code.wp _ _ _ a2 w2
 refine wp_seq ?_
 refine region_St (bf := [0, 1, 3, 7, 7, 15, 63]) (sp := [det _ 13 _, tup _ _ _ 1 14 _ _, tup _ _ _ 1 12 _ _, own _ _ _ 1 15 _, det _ 16 _, own _ _ _ 1 5 _, det _ 6 _]) [io r0] mixed st2 (by kernel_rfl) ⟨r0, trivial⟩
  ⟨Ob.d fun c => r_move rfl (c.p e0),
  Ob.callTup rfl rfl rfl (fun _ a_ _ _ c => ⟨_, _, (e_call1 rfl rfl Try.call19 (c.n 0 rfl)), refNamed_c n _⟩),
  Ob.moveT (t0 := 14) rfl rfl rfl rfl rfl (.inl rfl) (fun _ _ _ _ c => ⟨c.rtup 1 rfl rfl (by kernel_rfl), rfl⟩),
  Ob.part0 (t0 := 12) (k := (.bool (namedB n))) rfl rfl rfl rfl (fun _ _ _ _ c => c.rtup 2 rfl rfl (by kernel_rfl)),
  Ob.d fun c => c.part1 2 rfl rfl rfl,
  Ob.moveT (t0 := 15) rfl rfl rfl rfl rfl (.inr rfl) (fun _ _ _ _ c => ⟨c.ro 3 rfl, rfl⟩),
  Ob.d fun c => r_assign rfl (c.n 4 rfl), trivial⟩ ?_
 intro a3 w3 τ3 st3 f3
 obtain ⟨b3x5, e5⟩ : ∃ b, get a3 5 = b := ⟨_, rfl⟩
 obtain ⟨e2, e3, e4, -⟩ := f3.ks [(2, _), (3, _), (4, _)] ⟨e2, e3, e4, trivial⟩
 have e6 : get a3 6 = (.bool (namedB n)) := f3.v 6 rfl
 replace r0 := f3.io 0 rfl
 have r1 : ownR RowE 36 (namedF n) (τ3 1) b3x5 w3 := f3.ro 5 e5 rfl
 clear f3
 show Code.wp _ _ _ a3 w3
 refine wp_seq ?_
 refine region_St (bf := [0, 0, 3, 7, 15, 15, 63, 127, 255, 511, 1023, 2047, 4095, 8191, 16383, 32767]) (sp := [det _ 17 _, det _ 18 _, det _ 19 _, det _ 20 _, gdet _ 21 _ _, gdet _ 22 _ _, gdet _ 23 _ _, det _ 24 _, det _ 25 _, gdet _ 26 _ _, gdet _ 27 _ _, det _ 28 _, det _ 29 _, gdet _ 30 _ _, det _ 31 _, det _ 2 _]) [io r0, io r1] mixed st3 (by kernel_rfl) ⟨r0, r1, trivial⟩
  ⟨Ob.d fun c => r_move rfl (c.p e3),
  Ob.d fun c => r_move rfl (c.p e5),
  Ob.c fun c => ⟨_, _, (e_call2 rfl rfl Try.call13 (c.n 0 rfl) (c.n 1 rfl)), rows_c b2x3 b3x5 (namedF n) (namedF n) _ (c.io 0 rfl).1.sl (c.io 1 rfl).1.sl⟩,
  Ob.d fun c => r_move rfl (c.n 2 rfl),
  Ob.g 3 true rfl fun c hpc => r_move rfl (c.p e4),
  Ob.g 3 true rfl fun c hpc => r_move rfl (c.p e6),
  Ob.g 3 true rfl fun c hpc => r_beql rfl Try.underlying4 (c.m 4 rfl hpc) (c.m 5 rfl hpc),
  Ob.d fun c => r_and rfl (c.n 3 rfl) (fun h => c.m 6 rfl h),
  Ob.d fun c => r_move rfl (c.n 7 rfl),
  Ob.g 8 true rfl fun c hpc => r_move rfl (c.p e3),
  Ob.gc 8 true rfl fun c hpc => ⟨_, _, (e_call1 rfl rfl Try.call11 (c.m 9 rfl hpc)), mayR_c b2x3 (namedF n) _ (c.io 0 rfl).1.sl (by first | assumption | (unfold Small; decide)) (by have hq0 := hpc; (try simp only [Bool.and_eq_true, Bool.and_eq_false_iff, Bool.not_eq_true', Bool.not_eq_false', beq_iff_eq, decide_eq_true_eq, decide_eq_false_iff_not] at hq0); omega)⟩,
  Ob.d fun c => r_and rfl (c.n 8 rfl) (fun h => c.m 10 rfl h),
  Ob.d fun c => r_move rfl (c.n 11 rfl),
  Ob.gc 12 true rfl fun c hpc => ⟨_, _, (e_call0 rfl rfl Try.call10), awake_c _⟩,
  Ob.d fun c => r_and rfl (c.n 12 rfl) (fun h => c.m 13 rfl h),
  Ob.d fun c => r_assign rfl (c.n 14 rfl), trivial⟩ ?_
 intro a4 w4 τ4 st4 f4
 have e2 : get a4 2 = (.bool ((((decide (namedF n = namedF n)) && ((namedB n) == (namedB n))) && (mayRow (namedF n))) && true)) := f4.v 15 rfl
 clear f4
 show Code.wp _ _ _ a4 w4
 refine wp_ret ?_
 repeat (first | with_reducible refine then_ret ?_ | with_reducible refine block_ret ?_)
 refine ret1 (fn := Try.f4) rfl st4.defers e2 ?_
 exact ⟨congrArg _ (congrArg _ (show ((((decide (namedF n = namedF n)) && ((namedB n) == (namedB n))) && (mayRow (namedF n))) && true) = true from by rw [named_may]; simp)), st4.ext0⟩
end B
end Go.Proofs.Ythaeepiichphjaa
