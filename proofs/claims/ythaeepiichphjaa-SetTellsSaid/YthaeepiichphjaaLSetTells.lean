/-
  Walks, printed by a program (gen.py): LSetTells.
-/
import Derived.Test.YthaeepiichphjaaSetF
import Derived.Test.YthaeepiichphjaaRowP
set_option linter.unusedSimpArgs false
set_option linter.unusedVariables false
namespace Go.Proofs.Ythaeepiichphjaa
namespace B
open Go.RowKit
open Srt
set_option maxRecDepth 100000 in
set_option maxHeartbeats 4000000 in
theorem setTells_c (v : Value) (xs : List (ByteArray × ByteArray)) (n f : Bool) (s : ByteArray) (w : World) (hS : SlT RowE w v xs) : Calls Try.prog 3 #[v, (.bool (n)), (.bool (f)), (.string (s))] w (fun e w' => e = .returned (.bool (true)) ∧ Ext none' w w') := by
 refine enter (n := 45) Try.func3 rfl rfl (Nat.le_of_ble_eq_true rfl) ?_
 intro a0 τ0 ha st0
 have e0 : get a0 0 = v := ha 0 _ rfl
 have e1 : get a0 1 = (.bool (n)) := ha 1 _ rfl
 have e2 : get a0 2 = (.bool (f)) := ha 2 _ rfl
 have e3 : get a0 3 = (.string (s)) := ha 3 _ rfl
 clear ha
 have hle := hS.le
 refine wp_seq ?_
 refine region_St (bf := [0]) (sp := [det _ 8 _]) [] mixed st0 (by kernel_rfl) trivial
  ⟨Ob.d fun c => r_assign rfl rfl, trivial⟩ ?_
 intro a1 w1 τ1 st1 f1
 obtain ⟨e0, e1, e2, e3, -⟩ := f1.ks [(0, _), (1, _), (2, _), (3, _)] ⟨e0, e1, e2, e3, trivial⟩
 have e8 : get a1 8 = (.bool (false)) := f1.v 0 rfl
 clear f1
 show Code.wp _ _ _ a1 w1
 refine wp_seq ?_
 refine wp_seq ?_
 refine region_St (bf := [0, 1, 3, 7, 15, 31, 63]) (sp := [det _ 9 _, det _ 10 _, det _ 11 _, gdet _ 12 _ _, gdet _ 13 _ _, gdet _ 14 _ _, det _ 15 _]) [] mixed st1 (by kernel_rfl) trivial
  ⟨Ob.d fun c => r_move rfl (c.p e0),
  Ob.c fun c => ⟨_, _, (e_call3 rfl rfl Try.call9 rfl rfl (c.n 0 rfl)), much_c 30 200 v xs _ (hS.at (st1.ext.trans c.J.ext)) (by omega)⟩,
  Ob.d fun c => r_move rfl (c.n 1 rfl),
  Ob.g 2 false rfl fun c hpc => r_move rfl (c.p e3),
  Ob.g 2 false rfl fun c hpc => r_lenS rfl Try.underlying9 (c.m 3 rfl hpc),
  Ob.g 2 false rfl fun c hpc => r_gtr rfl (c.m 4 rfl hpc) rfl,
  Ob.d fun c => r_or rfl (c.n 2 rfl) (fun h => c.m 5 rfl h), trivial⟩ ?_
 intro a2 w2 τ2 st2 f2
 obtain ⟨e0, e1, e2, e3, e8, -⟩ := f2.ks [(0, _), (1, _), (2, _), (3, _), (8, _)] ⟨e0, e1, e2, e3, e8, trivial⟩
 have e15 : get a2 15 = (.bool ((muchR 30 200 xs) || (decide (20 < (s.size : Int))))) := f2.v 6 rfl
 clear f2
 show Code.wp _ _ _ a2 w2
 refine wp_cond_split (t := (muchR 30 200 xs) || (decide (20 < (s.size : Int)))) e15 (fun hc1 => ?_) (fun hc1 => ?_)
 · try simp only [Bool.or_eq_true, decide_eq_true_eq] at hc1
   refine wp_seq ?_
   refine region_St (bf := [0, 1]) (sp := [det _ 16 _, det _ 8 _]) [] mixed st2 (by kernel_rfl) trivial
    ⟨Ob.c fun c => ⟨_, _, (e_call0 rfl rfl Try.call10), awake_c _⟩,
    Ob.d fun c => r_assign rfl (c.n 0 rfl), trivial⟩ ?_
   intro a3 w3 τ3 st3 f3
   obtain ⟨e0, e1, e2, e3, -⟩ := f3.ks [(0, _), (1, _), (2, _), (3, _)] ⟨e0, e1, e2, e3, trivial⟩
   have e8 : get a3 8 = (.bool (true)) := f3.v 1 rfl
   clear f3
   show Code.wp _ _ _ a3 w3
   refine wp_ret ?_
   repeat (first | with_reducible refine then_ret ?_ | with_reducible refine block_ret ?_)
   refine ret1 (fn := Try.f3) rfl st3.defers e8 ?_
   exact ⟨rfl, st3.ext0⟩
 try simp only [Bool.or_eq_false_iff, decide_eq_false_iff_not, Int.not_lt] at hc1
 refine wp_skip ?_
 show Code.wp _ _ _ a2 w2
 refine wp_seq ?_
 obtain ⟨hmu, hsz⟩ := (by assumption : muchR 30 200 xs = false ∧ (s.size : Int) ≤ 20)
 obtain ⟨hz, hml⟩ := much_Small hmu (by omega)
 have hbig : xs.length ≤ 1000000000 := by omega
 refine region_St (bf := [0, 1, 0, 7, 15, 31, 63, 127, 63, 511, 1023, 2047, 4095, 8191, 8191, 8191, 8191, 131071, 8191, 8191, 8191, 8191, 4194303, 8388607, 16777215, 33554431, 67108863, 134217727, 268435455]) (sp := [det _ 17 _, det _ 18 _, det _ 19 _, det _ 20 _, det _ 21 _, det _ 22 _, gdet _ 23 _ _, gown (((mayRow xs) == (mayRow xs)) = true) RowE 36 (Nw w) 0 24 (unionT xs), gdet _ 25 _ _, gown (((mayRow xs) == (mayRow xs)) = true) RowE 36 (Nw w) 1 26 (unionT xs), gdet _ 27 _ _, det _ 28 _, det _ 29 _, gdet _ 30 _ _, gdet _ 31 _ _, gdet _ 32 _ _, gdet _ 33 _ _, gdet _ 34 _ _, gdet _ 35 _ _, gdet _ 36 _ _, gdet _ 37 _ _, gdet _ 38 _ _, gdet _ 39 _ _, gdet _ 40 _ _, det _ 41 _, det _ 42 _, gdet _ 43 _ _, det _ 44 _, det _ 8 _]) [] mixed st2 (by kernel_rfl) trivial
  ⟨Ob.d fun c => r_move rfl (c.p e0),
  Ob.c fun c => ⟨_, _, (e_call1 rfl rfl Try.call11 (c.n 0 rfl)), mayR_c v xs _ (hS.at (st2.ext.trans c.J.ext)) (by first | assumption | (unfold Small; decide)) (by omega)⟩,
  Ob.d fun c => r_move rfl (c.p e0),
  Ob.c fun c => ⟨_, _, (e_call1 rfl rfl Try.call12 (c.n 2 rfl)), refMayR_c v xs _ (hS.at (st2.ext.trans c.J.ext)) (by first | assumption | (unfold Small; decide)) (by omega)⟩,
  Ob.d fun c => r_beql rfl Try.underlying4 (c.n 1 rfl) (c.n 3 rfl),
  Ob.d fun c => r_move rfl (c.n 4 rfl),
  Ob.g 5 true rfl fun c hpc => r_move rfl (c.p e0),
  Ob.gown (gi := 5) (tg := 22) rfl rfl rfl rfl rfl rfl Iff.rfl (fun hpc => Ob.callOwn rfl rfl rfl (fun _ a_ _ _ c => ⟨_, _, (e_call1 rfl rfl Try.call14 (c.m 6 rfl hpc)), union_c v xs _ (hS.at (st2.ext.trans c.J.ext)) (by first | assumption | (unfold Small; decide)) (by have hq0 := hpc; (try simp only [Bool.not_eq_true', Bool.not_eq_false', beq_iff_eq] at hq0); omega)⟩)),
  Ob.g 5 true rfl fun c hpc => r_move rfl (c.p e0),
  Ob.gown (gi := 5) (tg := 22) rfl rfl rfl rfl rfl rfl Iff.rfl (fun hpc => Ob.callOwn rfl rfl rfl (fun _ a_ _ _ c => ⟨_, _, (e_call1 rfl rfl Try.call15 (c.m 8 rfl hpc)), refUnion_c v xs _ (hS.at (st2.ext.trans c.J.ext)) (by first | assumption | (unfold Small; decide)) (by have hq0 := hpc; (try simp only [Bool.not_eq_true', Bool.not_eq_false', beq_iff_eq] at hq0); omega)⟩)),
  Ob.gc 5 true rfl fun c hpc => ⟨_, _, (e_call2 rfl rfl Try.call13 (eval_tmp _ 24) (eval_tmp _ 26)), rows_c _ _ (unionT xs) (unionT xs) _ (c.rg 7 rfl hpc).1.sl (c.rg 9 rfl hpc).1.sl⟩,
  Ob.d fun c => r_and rfl (c.n 5 rfl) (fun h => c.m 10 rfl h),
  Ob.d fun c => r_move rfl (c.n 11 rfl),
  Ob.g 12 true rfl fun c hpc => r_move rfl (c.p e0),
  Ob.g 12 true rfl fun c hpc => r_move rfl (c.p e1),
  Ob.g 12 true rfl fun c hpc => r_move rfl (c.p e2),
  Ob.g 12 true rfl fun c hpc => r_move rfl (c.p e3),
  Ob.gc 12 true rfl fun c hpc => ⟨_, _, (e_call4 rfl rfl Try.call16 (c.m 13 rfl hpc) (c.m 14 rfl hpc) (c.m 15 rfl hpc) (c.m 16 rfl hpc)), has_c v xs n f s _ (hS.at (st2.ext.trans c.J.ext)) (by have hq0 := hpc; (try simp only [Bool.and_eq_true, Bool.and_eq_false_iff, Bool.not_eq_true', Bool.not_eq_false', beq_iff_eq, decide_eq_true_eq, decide_eq_false_iff_not] at hq0); omega)⟩,
  Ob.g 12 true rfl fun c hpc => r_move rfl (c.p e0),
  Ob.g 12 true rfl fun c hpc => r_move rfl (c.p e1),
  Ob.g 12 true rfl fun c hpc => r_move rfl (c.p e2),
  Ob.g 12 true rfl fun c hpc => r_move rfl (c.p e3),
  Ob.gc 12 true rfl fun c hpc => ⟨_, _, (e_call4 rfl rfl Try.call17 (c.m 18 rfl hpc) (c.m 19 rfl hpc) (c.m 20 rfl hpc) (c.m 21 rfl hpc)), refHas_c v xs n f s _ (hS.at (st2.ext.trans c.J.ext)) (by have hq0 := hpc; (try simp only [Bool.and_eq_true, Bool.and_eq_false_iff, Bool.not_eq_true', Bool.not_eq_false', beq_iff_eq, decide_eq_true_eq, decide_eq_false_iff_not] at hq0); omega)⟩,
  Ob.g 12 true rfl fun c hpc => r_beql rfl Try.underlying4 (c.m 17 rfl hpc) (c.m 22 rfl hpc),
  Ob.d fun c => r_and rfl (c.n 12 rfl) (fun h => c.m 23 rfl h),
  Ob.d fun c => r_move rfl (c.n 24 rfl),
  Ob.gc 25 true rfl fun c hpc => ⟨_, _, (e_call0 rfl rfl Try.call10), awake_c _⟩,
  Ob.d fun c => r_and rfl (c.n 25 rfl) (fun h => c.m 26 rfl h),
  Ob.d fun c => r_assign rfl (c.n 27 rfl), trivial⟩ ?_
 intro a4 w4 τ4 st4 f4
 have e8 : get a4 8 = (.bool (((((mayRow xs) == (mayRow xs)) && (decide (unionT xs = unionT xs))) && ((hasF xs n f s) == (hasF xs n f s))) && true)) := f4.v 28 rfl
 clear f4
 show Code.wp _ _ _ a4 w4
 refine wp_ret ?_
 repeat (first | with_reducible refine then_ret ?_ | with_reducible refine block_ret ?_)
 refine ret1 (fn := Try.f3) rfl st4.defers e8 ?_
 exact ⟨congrArg _ (congrArg _ (show (((((mayRow xs) == (mayRow xs)) && (decide (unionT xs = unionT xs))) && ((hasF xs n f s) == (hasF xs n f s))) && true) = true from by simp)), st4.ext0⟩
end B
end Go.Proofs.Ythaeepiichphjaa
