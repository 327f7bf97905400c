/-
  Walks, printed by a program (gen.py): LSetNot.
-/
import Derived.Test.YthaeepiichphjaaSetF
import Derived.Test.YthaeepiichphjaaRowP
set_option linter.unusedSimpArgs false
set_option linter.unusedVariables false
namespace Go.Proofs.Ythaeepiichphjaa
namespace B
open Go.RowKit
open Srt
set_option maxRecDepth 100000 in
set_option maxHeartbeats 4000000 in
theorem setNot_c (v : Value) (xs : List (ByteArray × ByteArray)) (f : Bool) (s : ByteArray) (w : World) (hS : SlT RowE w v xs) : Calls Try.prog 7 #[v, (.bool (f)), (.string (s))] w (fun e w' => e = .returned (.bool (true)) ∧ Ext none' w w') := by
 refine enter (n := 59) Try.func7 rfl rfl (Nat.le_of_ble_eq_true rfl) ?_
 intro a0 τ0 ha st0
 have e0 : get a0 0 = v := ha 0 _ rfl
 have e1 : get a0 1 = (.bool (f)) := ha 1 _ rfl
 have e2 : get a0 2 = (.string (s)) := ha 2 _ rfl
 clear ha
 have hle := hS.le
 refine wp_seq ?_
 refine region_St (bf := [0]) (sp := [det _ 6 _]) [] mixed st0 (by kernel_rfl) trivial
  ⟨Ob.d fun c => r_assign rfl rfl, trivial⟩ ?_
 intro a1 w1 τ1 st1 f1
 obtain ⟨e0, e1, e2, -⟩ := f1.ks [(0, _), (1, _), (2, _)] ⟨e0, e1, e2, trivial⟩
 have e6 : get a1 6 = (.bool (false)) := f1.v 0 rfl
 clear f1
 show Code.wp _ _ _ a1 w1
 refine wp_seq ?_
 refine wp_seq ?_
 refine region_St (bf := [0, 1, 3, 7, 15, 31, 63]) (sp := [det _ 8 _, det _ 9 _, det _ 10 _, gdet _ 11 _ _, gdet _ 12 _ _, gdet _ 13 _ _, det _ 14 _]) [] mixed st1 (by kernel_rfl) trivial
  ⟨Ob.d fun c => r_move rfl (c.p e0),
  Ob.c fun c => ⟨_, _, (e_call3 rfl rfl Try.call9 rfl rfl (c.n 0 rfl)), much_c 20 200 v xs _ (hS.at (st1.ext.trans c.J.ext)) (by omega)⟩,
  Ob.d fun c => r_move rfl (c.n 1 rfl),
  Ob.g 2 false rfl fun c hpc => r_move rfl (c.p e2),
  Ob.g 2 false rfl fun c hpc => r_lenS rfl Try.underlying9 (c.m 3 rfl hpc),
  Ob.g 2 false rfl fun c hpc => r_gtr rfl (c.m 4 rfl hpc) rfl,
  Ob.d fun c => r_or rfl (c.n 2 rfl) (fun h => c.m 5 rfl h), trivial⟩ ?_
 intro a2 w2 τ2 st2 f2
 obtain ⟨e0, e1, e2, e6, -⟩ := f2.ks [(0, _), (1, _), (2, _), (6, _)] ⟨e0, e1, e2, e6, trivial⟩
 have e14 : get a2 14 = (.bool ((muchR 20 200 xs) || (decide (20 < (s.size : Int))))) := f2.v 6 rfl
 clear f2
 show Code.wp _ _ _ a2 w2
 refine wp_cond_split (t := (muchR 20 200 xs) || (decide (20 < (s.size : Int)))) e14 (fun hc1 => ?_) (fun hc1 => ?_)
 · try simp only [Bool.or_eq_true, decide_eq_true_eq] at hc1
   refine wp_seq ?_
   refine region_St (bf := [0, 1]) (sp := [det _ 15 _, det _ 6 _]) [] mixed st2 (by kernel_rfl) trivial
    ⟨Ob.c fun c => ⟨_, _, (e_call0 rfl rfl Try.call10), awake_c _⟩,
    Ob.d fun c => r_assign rfl (c.n 0 rfl), trivial⟩ ?_
   intro a3 w3 τ3 st3 f3
   obtain ⟨e0, e1, e2, -⟩ := f3.ks [(0, _), (1, _), (2, _)] ⟨e0, e1, e2, trivial⟩
   have e6 : get a3 6 = (.bool (true)) := f3.v 1 rfl
   clear f3
   show Code.wp _ _ _ a3 w3
   refine wp_ret ?_
   repeat (first | with_reducible refine then_ret ?_ | with_reducible refine block_ret ?_)
   refine ret1 (fn := Try.f7) rfl st3.defers e6 ?_
   exact ⟨rfl, st3.ext0⟩
 try simp only [Bool.or_eq_false_iff, decide_eq_false_iff_not, Int.not_lt] at hc1
 refine wp_skip ?_
 show Code.wp _ _ _ a2 w2
 refine wp_seq ?_
 obtain ⟨hmu, hsz⟩ := (by assumption : muchR 20 200 xs = false ∧ (s.size : Int) ≤ 20)
 obtain ⟨hz, hml⟩ := much_Small hmu (by omega)
 have hbig : xs.length ≤ 1000000000 := by omega
 refine region_St (bf := [0, 0, 0, 7, 15]) (sp := [det _ 16 _, det _ 17 _, det _ 18 _, det _ 19 _, det _ 7 _]) [] mixed st2 (by kernel_rfl) trivial
  ⟨Ob.d fun c => r_move rfl (c.p e0),
  Ob.d fun c => r_move rfl (c.p e1),
  Ob.d fun c => r_move rfl (c.p e2),
  Ob.c fun c => ⟨_, _, (e_call4 rfl rfl Try.call16 (c.n 0 rfl) rfl (c.n 1 rfl) (c.n 2 rfl)), has_c v xs false f s _ (hS.at (st2.ext.trans c.J.ext)) (by omega)⟩,
  Ob.d fun c => r_assign rfl (c.n 3 rfl), trivial⟩ ?_
 intro a4 w4 τ4 st4 f4
 obtain ⟨e0, e1, e2, e6, -⟩ := f4.ks [(0, _), (1, _), (2, _), (6, _)] ⟨e0, e1, e2, e6, trivial⟩
 have e7 : get a4 7 = (.bool (hasF xs false f s)) := f4.v 4 rfl
 clear f4
 show Code.wp _ _ _ a4 w4
 refine wp_seq ?_
 refine wp_seq ?_
 refine region_St (bf := [0, 0, 0, 7, 0, 31, 63, 127, 127, 511, 1023, 2047, 2047, 8191, 16383, 32767, 65535]) (sp := [det _ 20 _, det _ 21 _, det _ 22 _, det _ 23 _, det _ 24 _, det _ 25 _, det _ 26 _, gdet _ 27 _ _, gdet _ 28 _ _, gdet _ 29 _ _, gdet _ 30 _ _, gdet _ 31 _ _, gdet _ 32 _ _, gdet _ 33 _ _, gdet _ 34 _ _, gdet _ 35 _ _, det _ 36 (.bool (false))]) [] mixed st4 (by kernel_rfl) trivial
  ⟨Ob.d fun c => r_move rfl (c.p e0),
  Ob.d fun c => r_move rfl (c.p e1),
  Ob.d fun c => r_move rfl (c.p e2),
  Ob.c fun c => ⟨_, _, (e_call4 rfl rfl Try.call16 (c.n 0 rfl) rfl (c.n 1 rfl) (c.n 2 rfl)), has_c v xs true f s _ (hS.at (st4.ext.trans c.J.ext)) (by omega)⟩,
  Ob.d fun c => r_move rfl (c.p e7),
  Ob.d fun c => r_beql rfl Try.underlying4 (c.n 3 rfl) (c.n 4 rfl),
  Ob.d fun c => r_move rfl (c.n 5 rfl),
  Ob.g 6 false rfl fun c hpc => r_move rfl (c.p e0),
  Ob.g 6 false rfl fun c hpc => r_move rfl (c.p e2),
  Ob.gc 6 false rfl fun c hpc => ⟨_, _, (e_call4 rfl rfl Try.call16 (c.m 7 rfl hpc) rfl rfl (c.m 8 rfl hpc)), has_c v xs false false s _ (hS.at (st4.ext.trans c.J.ext)) (by have hq0 := hpc; (try simp only [Bool.not_eq_true', Bool.not_eq_false', beq_iff_eq] at hq0); omega)⟩,
  Ob.g 6 false rfl fun c hpc => r_move rfl (c.m 9 rfl hpc),
  Ob.gg 10 true rfl fun c hpc => r_move rfl (c.p e0),
  Ob.gg 10 true rfl fun c hpc => r_move rfl (c.p e2),
  Ob.ggc 10 true rfl fun c hpc => ⟨_, _, (e_call4 rfl rfl Try.call16 (c.m 11 rfl hpc) rfl rfl (c.m 12 rfl hpc)), has_c v xs false true s _ (hS.at (st4.ext.trans c.J.ext)) (by have hq0 := hpc.2; have hq1 := hpc.1; (try simp only [Bool.not_eq_true', Bool.not_eq_false', beq_iff_eq] at hq1); omega)⟩,
  Ob.gg 10 true rfl fun c hpc => r_not rfl (c.m 13 rfl hpc),
  Ob.g 6 false rfl fun c hpc => r_and rfl (c.m 10 rfl hpc) (fun h => c.m 14 rfl (And.intro hpc h)),
  Ob.d (v := (.bool (false))) fun c => Runs.isB (b := ((hasF xs true f s) == (hasF xs false f s)) || ((hasF xs false false s) && (!(hasF xs false true s)))) (r_or rfl (c.n 6 rfl) (fun h => c.m 15 rfl h)) (by rw [Bool.beq_eq_decide_eq, hasF_not, hasF_less]; rfl), trivial⟩ ?_
 intro a5 w5 τ5 st5 f5
 obtain ⟨e0, e1, e2, e6, e7, -⟩ := f5.ks [(0, _), (1, _), (2, _), (6, _), (7, _)] ⟨e0, e1, e2, e6, e7, trivial⟩
 have e36 : get a5 36 = (.bool (false)) := f5.v 16 rfl
 clear f5
 show Code.wp _ _ _ a5 w5
 refine wp_cond_false e36 ?_
 refine wp_skip ?_
 show Code.wp _ _ _ a5 w5
 refine wp_seq ?_
 refine region_St (bf := [0, 1, 0, 7, 15, 31, 63, 31, 255, 511, 1023, 2047, 2047, 2047, 10239, 2047, 63487, 131071, 262143, 524287, 1048575, 2097151, 4194303]) (sp := [det _ 37 _, det _ 38 _, det _ 39 _, det _ 40 _, det _ 41 _, gdet _ 42 _ _, gdet _ 43 _ _, gdet _ 44 _ _, gdet _ 45 _ _, det _ 46 _, det _ 47 _, gdet _ 48 _ _, gdet _ 49 _ _, gdet _ 50 _ _, gdet _ 51 _ _, gdet _ 52 _ _, gdet _ 53 _ _, gdet _ 54 _ _, det _ 55 _, det _ 56 _, gdet _ 57 _ _, det _ 58 _, det _ 6 _]) [] mixed st5 (by kernel_rfl) trivial
  ⟨Ob.d fun c => r_move rfl (c.p e2),
  Ob.c fun c => ⟨_, _, (e_call1 rfl rfl Try.call21 (c.n 0 rfl)), refFold_c s _ (by omega)⟩,
  Ob.d fun c => r_move rfl (c.p e2),
  Ob.d fun c => r_sneq rfl (c.n 1 rfl) (c.n 2 rfl),
  Ob.d fun c => r_move rfl (c.n 3 rfl),
  Ob.g 4 false rfl fun c hpc => r_move rfl (c.p e2),
  Ob.gc 4 false rfl fun c hpc => ⟨_, _, (e_call1 rfl rfl Try.call22 (c.m 5 rfl hpc)), refUpper_c s _ (by have hq0 := hpc; (try simp only [Bool.not_eq_true', Bool.not_eq_false'] at hq0); omega)⟩,
  Ob.g 4 false rfl fun c hpc => r_move rfl (c.p e2),
  Ob.g 4 false rfl fun c hpc => r_sneq rfl (c.m 6 rfl hpc) (c.m 7 rfl hpc),
  Ob.d fun c => r_or rfl (c.n 4 rfl) (fun h => c.m 8 rfl h),
  Ob.d fun c => r_move rfl (c.n 9 rfl),
  Ob.g 10 false rfl fun c hpc => r_move rfl (c.p e7),
  Ob.g 10 false rfl fun c hpc => r_move rfl (c.p e0),
  Ob.g 10 false rfl fun c hpc => r_move rfl (c.p e1),
  Ob.g 10 false rfl fun c hpc => r_not rfl (c.m 13 rfl hpc),
  Ob.g 10 false rfl fun c hpc => r_move rfl (c.p e2),
  Ob.gc 10 false rfl fun c hpc => ⟨_, _, (e_call4 rfl rfl Try.call16 (c.m 12 rfl hpc) rfl (c.m 14 rfl hpc) (c.m 15 rfl hpc)), has_c v xs false (!f) s _ (hS.at (st5.ext.trans c.J.ext)) (by have hq0 := hpc; (try simp only [Bool.or_eq_true, Bool.or_eq_false_iff, Bool.not_eq_true', Bool.not_eq_false'] at hq0); omega)⟩,
  Ob.g 10 false rfl fun c hpc => r_beql rfl Try.underlying4 (c.m 11 rfl hpc) (c.m 16 rfl hpc),
  Ob.d fun c => r_or rfl (c.n 10 rfl) (fun h => c.m 17 rfl h),
  Ob.d fun c => r_move rfl (c.n 18 rfl),
  Ob.gc 19 true rfl fun c hpc => ⟨_, _, (e_call0 rfl rfl Try.call10), awake_c _⟩,
  Ob.d fun c => r_and rfl (c.n 19 rfl) (fun h => c.m 20 rfl h),
  Ob.d fun c => r_assign rfl (c.n 21 rfl), trivial⟩ ?_
 intro a6 w6 τ6 st6 f6
 have e6 : get a6 6 = (.bool ((((!(eqT (foldT s) s)) || (!(eqT (upT s) s))) || ((hasF xs false f s) == (hasF xs false (!f) s))) && true)) := f6.v 22 rfl
 clear f6
 show Code.wp _ _ _ a6 w6
 refine wp_ret ?_
 repeat (first | with_reducible refine then_ret ?_ | with_reducible refine block_ret ?_)
 refine ret1 (fn := Try.f7) rfl st6.defers e6 ?_
 exact ⟨congrArg _ (congrArg _ (show ((((!(eqT (foldT s) s)) || (!(eqT (upT s) s))) || ((hasF xs false f s) == (hasF xs false (!f) s))) && true) = true from by rw [Bool.beq_eq_decide_eq, still]; rfl)), st6.ext0⟩
end B
end Go.Proofs.Ythaeepiichphjaa
