/-
  Walks, printed by a program (gen.py): LSetCovers.
-/
import Derived.Test.YthaeepiichphjaaSetF
import Derived.Test.YthaeepiichphjaaRowP
set_option linter.unusedSimpArgs false
set_option linter.unusedVariables false
namespace Go.Proofs.Ythaeepiichphjaa
namespace B
open Go.RowKit
open Srt
set_option maxRecDepth 100000 in
set_option maxHeartbeats 4000000 in
theorem setCovers_c (v : Value) (xs : List (ByteArray × ByteArray)) (f : Bool) (s : ByteArray) (w : World) (hS : SlT RowE w v xs) : Calls Try.prog 5 #[v, (.bool (f)), (.string (s))] w (fun e w' => e = .returned (.bool (true)) ∧ Ext none' w w') := by
 refine enter (n := 41) Try.func5 rfl rfl (Nat.le_of_ble_eq_true rfl) ?_
 intro a0 τ0 ha st0
 have e0 : get a0 0 = v := ha 0 _ rfl
 have e1 : get a0 1 = (.bool (f)) := ha 1 _ rfl
 have e2 : get a0 2 = (.string (s)) := ha 2 _ rfl
 clear ha
 have hle := hS.le
 refine wp_seq ?_
 refine region_St (bf := [0]) (sp := [det _ 6 _]) [] mixed st0 (by kernel_rfl) trivial
  ⟨Ob.d fun c => r_assign rfl rfl, trivial⟩ ?_
 intro a1 w1 τ1 st1 f1
 obtain ⟨e0, e1, e2, -⟩ := f1.ks [(0, _), (1, _), (2, _)] ⟨e0, e1, e2, trivial⟩
 have e6 : get a1 6 = (.bool (false)) := f1.v 0 rfl
 clear f1
 show Code.wp _ _ _ a1 w1
 refine wp_seq ?_
 refine wp_seq ?_
 refine region_St (bf := [0, 1, 3, 7, 15, 31, 63]) (sp := [det _ 8 _, det _ 9 _, det _ 10 _, gdet _ 11 _ _, gdet _ 12 _ _, gdet _ 13 _ _, det _ 14 _]) [] mixed st1 (by kernel_rfl) trivial
  ⟨Ob.d fun c => r_move rfl (c.p e0),
  Ob.c fun c => ⟨_, _, (e_call3 rfl rfl Try.call9 rfl rfl (c.n 0 rfl)), much_c 20 200 v xs _ (hS.at (st1.ext.trans c.J.ext)) (by omega)⟩,
  Ob.d fun c => r_move rfl (c.n 1 rfl),
  Ob.g 2 false rfl fun c hpc => r_move rfl (c.p e2),
  Ob.g 2 false rfl fun c hpc => r_lenS rfl Try.underlying9 (c.m 3 rfl hpc),
  Ob.g 2 false rfl fun c hpc => r_gtr rfl (c.m 4 rfl hpc) rfl,
  Ob.d fun c => r_or rfl (c.n 2 rfl) (fun h => c.m 5 rfl h), trivial⟩ ?_
 intro a2 w2 τ2 st2 f2
 obtain ⟨e0, e1, e2, e6, -⟩ := f2.ks [(0, _), (1, _), (2, _), (6, _)] ⟨e0, e1, e2, e6, trivial⟩
 have e14 : get a2 14 = (.bool ((muchR 20 200 xs) || (decide (20 < (s.size : Int))))) := f2.v 6 rfl
 clear f2
 show Code.wp _ _ _ a2 w2
 refine wp_cond_split (t := (muchR 20 200 xs) || (decide (20 < (s.size : Int)))) e14 (fun hc1 => ?_) (fun hc1 => ?_)
 · try simp only [Bool.or_eq_true, decide_eq_true_eq] at hc1
   refine wp_seq ?_
   refine region_St (bf := [0, 1]) (sp := [det _ 15 _, det _ 6 _]) [] mixed st2 (by kernel_rfl) trivial
    ⟨Ob.c fun c => ⟨_, _, (e_call0 rfl rfl Try.call10), awake_c _⟩,
    Ob.d fun c => r_assign rfl (c.n 0 rfl), trivial⟩ ?_
   intro a3 w3 τ3 st3 f3
   obtain ⟨e0, e1, e2, -⟩ := f3.ks [(0, _), (1, _), (2, _)] ⟨e0, e1, e2, trivial⟩
   have e6 : get a3 6 = (.bool (true)) := f3.v 1 rfl
   clear f3
   show Code.wp _ _ _ a3 w3
   refine wp_ret ?_
   repeat (first | with_reducible refine then_ret ?_ | with_reducible refine block_ret ?_)
   refine ret1 (fn := Try.f5) rfl st3.defers e6 ?_
   exact ⟨rfl, st3.ext0⟩
 try simp only [Bool.or_eq_false_iff, decide_eq_false_iff_not, Int.not_lt] at hc1
 refine wp_skip ?_
 show Code.wp _ _ _ a2 w2
 refine wp_seq ?_
 obtain ⟨hmu, hsz⟩ := (by assumption : muchR 20 200 xs = false ∧ (s.size : Int) ≤ 20)
 obtain ⟨hz, hml⟩ := much_Small hmu (by omega)
 have hbig : xs.length ≤ 1000000000 := by omega
 refine region_St (bf := [0, 1, 3]) (sp := [det _ 16 _, own _ _ _ 0 17 _, own _ _ _ 0 7 _]) [] mixed st2 (by kernel_rfl) trivial
  ⟨Ob.d fun c => r_move rfl (c.p e0),
  Ob.callOwn rfl rfl rfl (fun _ a_ _ _ c => ⟨_, _, (e_call1 rfl rfl Try.call14 (c.n 0 rfl)), union_c v xs _ (hS.at (st2.ext.trans c.J.ext)) (by first | assumption | (unfold Small; decide)) (by omega)⟩),
  Ob.moveT (t0 := 17) rfl rfl rfl rfl rfl (.inr rfl) (fun _ _ _ _ c => ⟨c.ro 1 rfl, rfl⟩), trivial⟩ ?_
 intro a4 w4 τ4 st4 f4
 obtain ⟨b4x7, e7⟩ : ∃ b, get a4 7 = b := ⟨_, rfl⟩
 obtain ⟨e0, e1, e2, e6, -⟩ := f4.ks [(0, _), (1, _), (2, _), (6, _)] ⟨e0, e1, e2, e6, trivial⟩
 have r0 : ownR RowE 36 (unionT xs) (τ4 0) b4x7 w4 := f4.ro 2 e7 rfl
 clear f4
 have hus := union_small hz
 have hul := union_len xs
 show Code.wp _ _ _ a4 w4
 refine wp_seq ?_
 refine region_St (bf := [0, 1, 3, 7, 15, 7, 63, 127, 255, 511, 1023, 511, 511, 8191, 511, 511, 511, 131071, 262143, 524287, 1048575, 2097151, 4194303, 8388607]) (sp := [det _ 18 _, det _ 19 _, det _ 20 _, gdet _ 21 _ _, gown ((mayRow (unionT xs)) = true) RowE 36 (Nw w) 1 22 (unionT (unionT xs)), gdet _ 23 _ _, gdet _ 24 _ _, det _ 25 _, det _ 26 _, gdet _ 27 _ _, gown (((mayRow (unionT xs)) && (decide (unionT (unionT xs) = unionT xs))) = true) RowE 36 (Nw w) 2 28 (List.filter rowB xs), gdet _ 29 _ _, gdet _ 30 _ _, gdet _ 31 _ _, gdet _ 32 _ _, gdet _ 33 _ _, gdet _ 34 _ _, gdet _ 35 _ _, gdet _ 36 _ _, det _ 37 _, det _ 38 _, gdet _ 39 _ _, det _ 40 _, det _ 6 _]) [io r0] mixed st4 (by kernel_rfl) ⟨r0, trivial⟩
  ⟨Ob.d fun c => r_move rfl (c.p e7),
  Ob.c fun c => ⟨_, _, (e_call1 rfl rfl Try.call11 (c.n 0 rfl)), mayR_c b4x7 (unionT xs) _ (c.io 0 rfl).1.sl (by first | assumption | (unfold Small; decide)) (by omega)⟩,
  Ob.d fun c => r_move rfl (c.n 1 rfl),
  Ob.g 2 true rfl fun c hpc => r_move rfl (c.p e7),
  Ob.gown (gi := 2) (tg := 20) rfl rfl rfl rfl rfl rfl Iff.rfl (fun hpc => Ob.callOwn rfl rfl rfl (fun _ a_ _ _ c => ⟨_, _, (e_call1 rfl rfl Try.call14 (c.m 3 rfl hpc)), union_c b4x7 (unionT xs) _ (c.io 0 rfl).1.sl (by first | assumption | (unfold Small; decide)) (by have hq0 := hpc; omega)⟩)),
  Ob.g 2 true rfl fun c hpc => r_move rfl (c.p e7),
  Ob.gc 2 true rfl fun c hpc => ⟨_, _, (e_call2 rfl rfl Try.call13 (eval_tmp _ 22) (c.m 5 rfl hpc)), rows_c _ b4x7 (unionT (unionT xs)) (unionT xs) _ (c.rg 4 rfl hpc).1.sl (c.io 0 rfl).1.sl⟩,
  Ob.d fun c => r_and rfl (c.n 2 rfl) (fun h => c.m 6 rfl h),
  Ob.d fun c => r_move rfl (c.n 7 rfl),
  Ob.g 8 true rfl fun c hpc => r_move rfl (c.p e0),
  Ob.gown (gi := 8) (tg := 26) rfl rfl rfl rfl rfl rfl Iff.rfl (fun hpc => Ob.callOwn rfl rfl rfl (fun _ a_ _ _ c => ⟨_, _, (e_call1 rfl rfl Try.call20 (c.m 9 rfl hpc)), properL_c v xs _ (hS.at (st4.ext.trans c.J.ext)) (by first | assumption | (unfold Small; decide)) (by have hq0 := hpc; (try simp only [Bool.and_eq_true, decide_eq_true_eq] at hq0); omega)⟩)),
  Ob.g 8 true rfl fun c hpc => r_move rfl (c.p e1),
  Ob.g 8 true rfl fun c hpc => r_move rfl (c.p e2),
  Ob.gc 8 true rfl fun c hpc => ⟨_, _, (e_call4 rfl rfl Try.call16 (eval_tmp _ 28) rfl (c.m 11 rfl hpc) (c.m 12 rfl hpc)), has_c _ (List.filter rowB xs) false f s _ (c.rg 10 rfl hpc).1.sl (by have hq0 := hpc; (try simp only [Bool.and_eq_true, decide_eq_true_eq] at hq0); omega)⟩,
  Ob.g 8 true rfl fun c hpc => r_move rfl (c.p e7),
  Ob.g 8 true rfl fun c hpc => r_move rfl (c.p e1),
  Ob.g 8 true rfl fun c hpc => r_move rfl (c.p e2),
  Ob.gc 8 true rfl fun c hpc => ⟨_, _, (e_call4 rfl rfl Try.call16 (c.m 14 rfl hpc) rfl (c.m 15 rfl hpc) (c.m 16 rfl hpc)), has_c b4x7 (unionT xs) false f s _ (c.io 0 rfl).1.sl (by have hq0 := hpc; (try simp only [Bool.and_eq_true, decide_eq_true_eq] at hq0); omega)⟩,
  Ob.g 8 true rfl fun c hpc => r_beql rfl Try.underlying4 (c.m 13 rfl hpc) (c.m 17 rfl hpc),
  Ob.d fun c => r_and rfl (c.n 8 rfl) (fun h => c.m 18 rfl h),
  Ob.d fun c => r_move rfl (c.n 19 rfl),
  Ob.gc 20 true rfl fun c hpc => ⟨_, _, (e_call0 rfl rfl Try.call10), awake_c _⟩,
  Ob.d fun c => r_and rfl (c.n 20 rfl) (fun h => c.m 21 rfl h),
  Ob.d fun c => r_assign rfl (c.n 22 rfl), trivial⟩ ?_
 intro a5 w5 τ5 st5 f5
 have e6 : get a5 6 = (.bool ((((mayRow (unionT xs)) && (decide (unionT (unionT xs) = unionT xs))) && ((hasF (List.filter rowB xs) false f s) == (hasF (unionT xs) false f s))) && true)) := f5.v 23 rfl
 clear f5
 show Code.wp _ _ _ a5 w5
 refine wp_ret ?_
 repeat (first | with_reducible refine then_ret ?_ | with_reducible refine block_ret ?_)
 refine ret1 (fn := Try.f5) rfl st5.defers e6 ?_
 exact ⟨congrArg _ (congrArg _ (show ((((mayRow (unionT xs)) && (decide (unionT (unionT xs) = unionT xs))) && ((hasF (List.filter rowB xs) false f s) == (hasF (unionT xs) false f s))) && true) = true from by rw [mayRow_union, union_self, hasF_union]; simp)), st5.ext0⟩
end B
end Go.Proofs.Ythaeepiichphjaa
