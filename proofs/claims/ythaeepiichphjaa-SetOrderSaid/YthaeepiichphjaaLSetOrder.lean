/-
  Walks, printed by a program (gen.py): LSetOrder.
-/
import Derived.Test.YthaeepiichphjaaSetF
import Derived.Test.YthaeepiichphjaaRowP
set_option linter.unusedSimpArgs false
set_option linter.unusedVariables false
namespace Go.Proofs.Ythaeepiichphjaa
namespace B
open Go.RowKit
open Srt
set_option maxRecDepth 100000 in
set_option maxHeartbeats 4000000 in
theorem setOrder_c (v : Value) (xs : List (ByteArray × ByteArray)) (w : World) (hS : SlT RowE w v xs) : Calls Try.prog 6 #[v] w (fun e w' => e = .returned (.bool (true)) ∧ Ext none' w w') := by
 refine enter (n := 36) Try.func6 rfl rfl (Nat.le_of_ble_eq_true rfl) ?_
 intro a0 τ0 ha st0
 have e0 : get a0 0 = v := ha 0 _ rfl
 clear ha
 have hle := hS.le
 refine wp_seq ?_
 refine region_St (bf := [0]) (sp := [det _ 2 _]) [] mixed st0 (by kernel_rfl) trivial
  ⟨Ob.d fun c => r_assign rfl rfl, trivial⟩ ?_
 intro a1 w1 τ1 st1 f1
 obtain ⟨e0, -⟩ := f1.ks [(0, _)] ⟨e0, trivial⟩
 have e2 : get a1 2 = (.bool (false)) := f1.v 0 rfl
 clear f1
 show Code.wp _ _ _ a1 w1
 refine wp_seq ?_
 refine wp_seq ?_
 refine region_St (bf := [0, 1]) (sp := [det _ 5 _, det _ 6 _]) [] mixed st1 (by kernel_rfl) trivial
  ⟨Ob.d fun c => r_move rfl (c.p e0),
  Ob.c fun c => ⟨_, _, (e_call3 rfl rfl Try.call9 rfl rfl (c.n 0 rfl)), much_c 20 200 v xs _ (hS.at (st1.ext.trans c.J.ext)) (by omega)⟩, trivial⟩ ?_
 intro a2 w2 τ2 st2 f2
 obtain ⟨e0, e2, -⟩ := f2.ks [(0, _), (2, _)] ⟨e0, e2, trivial⟩
 have e6 : get a2 6 = (.bool (muchR 20 200 xs)) := f2.v 1 rfl
 clear f2
 show Code.wp _ _ _ a2 w2
 refine wp_cond_split (t := muchR 20 200 xs) e6 (fun hc1 => ?_) (fun hc1 => ?_)
 · skip
   refine wp_seq ?_
   refine region_St (bf := [0, 1]) (sp := [det _ 7 _, det _ 2 _]) [] mixed st2 (by kernel_rfl) trivial
    ⟨Ob.c fun c => ⟨_, _, (e_call0 rfl rfl Try.call10), awake_c _⟩,
    Ob.d fun c => r_assign rfl (c.n 0 rfl), trivial⟩ ?_
   intro a3 w3 τ3 st3 f3
   obtain ⟨e0, -⟩ := f3.ks [(0, _)] ⟨e0, trivial⟩
   have e2 : get a3 2 = (.bool (true)) := f3.v 1 rfl
   clear f3
   show Code.wp _ _ _ a3 w3
   refine wp_ret ?_
   repeat (first | with_reducible refine then_ret ?_ | with_reducible refine block_ret ?_)
   refine ret1 (fn := Try.f6) rfl st3.defers e2 ?_
   exact ⟨rfl, st3.ext0⟩
 skip
 refine wp_skip ?_
 show Code.wp _ _ _ a2 w2
 refine wp_seq ?_
 have hmu : muchR 20 200 xs = false := by assumption
 obtain ⟨hz, hml⟩ := much_Small hmu (by omega)
 have hbig : xs.length ≤ 1000000000 := by omega
 refine region_St (bf := [0]) (sp := [det _ 3 _]) [] mixed st2 (by kernel_rfl) trivial
  ⟨Ob.d fun c => r_assign rfl rfl, trivial⟩ ?_
 intro a4 w4 τ4 st4 f4
 obtain ⟨e0, e2, -⟩ := f4.ks [(0, _), (2, _)] ⟨e0, e2, trivial⟩
 have e3 : get a4 3 = (.slice none 0 0) := f4.v 0 rfl
 clear f4
 show Code.wp _ _ _ a4 w4
 refine wp_seq ?_
 refine wp_seq ?_
 refine region_St (bf := [0, 1, 3, 7]) (sp := [det _ 8 _, det _ 9 _, det _ 10 _, det _ 4 _]) [] mixed st4 (by kernel_rfl) trivial
  ⟨Ob.d fun c => r_move rfl (c.p e0),
  Ob.d fun c => r_len rfl Try.underlying22 (c.n 0 rfl) hS.sl,
  Ob.d fun c => r_sub rfl (c.n 1 rfl) rfl (by omega),
  Ob.d fun c => r_assign rfl (c.n 2 rfl), trivial⟩ ?_
 intro a5 w5 τ5 st5 f5
 obtain ⟨e0, e2, e3, -⟩ := f5.ks [(0, _), (2, _), (3, _)] ⟨e0, e2, e3, trivial⟩
 have e4 : get a5 4 = (.int .i64 ((xs.length : Int) - 1)) := f5.v 3 rfl
 clear f5
 show Code.wp _ _ _ a5 w5
 refine wp_block ?_
 refine wp_loop (fun a_ w_ => ∃ (k : Nat) (u : Value) (τ : Nat → Foot), (k ≤ xs.length) ∧
      St (Nw w) w 36 a_ w_ τ ∧
      get a_ 3 = u ∧
      get a_ 4 = (.int .i64 ((k : Int) - 1)) ∧
      get a_ 0 = v ∧
      get a_ 2 = (.bool (false)) ∧
      ownR RowE 36 (backR (xs.drop k)) (τ 0) u w_) (fun a_ _ => (intOf (get a_ 4) + 1).toNat) ?_ ?_
 · refine ⟨xs.length, (.slice none 0 0), τ5, ?_, st5, e3, (e4.trans (int_eq (by omega))), e0, e2, ?_⟩
   · omega
   · rw [List.drop_of_length_le (Nat.le_refl _)]; exact ownR.nil _ _ _ _
 intro a6 w6 hI
 obtain ⟨k, u, τ6, q0, st6, e3, e4, e0, e2, r0⟩ := hI
 have hbl := backR_le (xs := xs) (k := k)
 have m4 := e4
 refine wp_seq ?_
 refine wp_seq ?_
 refine region_St (bf := [0, 1]) (sp := [det _ 11 _, det _ 12 _]) [io r0] mixed st6 (by kernel_rfl) ⟨r0, trivial⟩
  ⟨Ob.d fun c => r_move rfl (c.p e4),
  Ob.d fun c => r_geq rfl (c.n 0 rfl) rfl, trivial⟩ ?_
 intro a7 w7 τ7 st7 f7
 obtain ⟨e0, e2, e3, e4, -⟩ := f7.ks [(0, _), (2, _), (3, _), (4, _)] ⟨e0, e2, e3, e4, trivial⟩
 have e12 : get a7 12 = (.bool (decide (0 ≤ (k : Int) - 1))) := f7.v 1 rfl
 replace r0 := f7.io 0 rfl
 clear f7
 show Code.wp _ _ _ a7 w7
 refine wp_cond_split (t := decide (0 ≤ (k : Int) - 1)) e12 (fun hc2 => ?_) (fun hc2 => ?_)
 · try simp only [decide_eq_true_eq] at hc2
   refine wp_skip ?_
   show Code.wp _ _ _ a7 w7
   refine wp_seq ?_
   refine wp_block ?_
   refine region_St (bf := [0, 0, 0, 6, 14, 0, 0, 0, 192, 448, 0, 2046, 4095, 8191]) (sp := [det _ 15 _, det _ 16 _, det _ 17 _, det _ 18 _, det _ 19 _, det _ 20 _, det _ 21 _, det _ 22 _, det _ 23 _, det _ 24 _, det _ 25 _, own RowE 36 _ 1 26 ([(nth xs ((k : Int) - 1)), ((⟨#[98]⟩ : ByteArray), (⟨#[97]⟩ : ByteArray)), (nth xs ((k : Int) - 1)), ((⟨#[]⟩ : ByteArray), (⟨#[]⟩ : ByteArray))]), own _ _ _ 0 27 _, own _ _ _ 0 3 _]) [io r0] mixed st7 (by kernel_rfl) ⟨r0, trivial⟩
    ⟨Ob.d fun c => r_move rfl (c.p e3),
    Ob.d fun c => r_move rfl (c.p e0),
    Ob.d fun c => r_move rfl (c.p e4),
    Ob.d fun c => r_indexAddr rfl Try.underlying22 Try.sizeOf36 (c.n 1 rfl) hS.sl (c.n 2 rfl) (by omega) (by omega),
    Ob.d fun c => r_loadN (vs := [(.string ((nth xs ((k : Int) - 1)).1)), (.string ((nth xs ((k : Int) - 1)).2))]) rfl Try.isAgg36 Try.sizeOf36 (c.n 3 rfl) rfl (fun _ _ hj => ((hS.at (st7.ext.trans c.J.ext))).elem (nth_some (i := (k : Int) - 1) (by omega) (by omega)) hj),
    Ob.d fun c => r_build (cells := #[(.string ((⟨#[98]⟩ : ByteArray))), (.string ((⟨#[97]⟩ : ByteArray)))]) rfl Try.underlying36 Try.zeroValue36 (pl := #[(0, 1), (1, 1)]) (fun w_ => by simp [Try.sizeOf9]) (fill2 rfl rfl rfl),
    Ob.d fun c => r_move rfl (c.p e0),
    Ob.d fun c => r_move rfl (c.p e4),
    Ob.d fun c => r_indexAddr rfl Try.underlying22 Try.sizeOf36 (c.n 6 rfl) hS.sl (c.n 7 rfl) (by omega) (by omega),
    Ob.d fun c => r_loadN (vs := [(.string ((nth xs ((k : Int) - 1)).1)), (.string ((nth xs ((k : Int) - 1)).2))]) rfl Try.isAgg36 Try.sizeOf36 (c.n 8 rfl) rfl (fun _ _ hj => ((hS.at (st7.ext.trans c.J.ext))).elem (nth_some (i := (k : Int) - 1) (by omega) (by omega)) hj),
    Ob.d fun c => r_build (cells := #[(.string ((⟨#[]⟩ : ByteArray))), (.string ((⟨#[]⟩ : ByteArray)))]) rfl Try.underlying36 Try.zeroValue36 (pl := #[(0, 1), (1, 1)]) (fun w_ => by simp [Try.sizeOf9]) (by simp only [List.map_toArray, List.map_nil]; rfl),
    Ob.buildSlice (cells := #[(.string ((nth xs ((k : Int) - 1)).1)), (.string ((nth xs ((k : Int) - 1)).2)), (.string ((⟨#[98]⟩ : ByteArray))), (.string ((⟨#[97]⟩ : ByteArray))), (.string ((nth xs ((k : Int) - 1)).1)), (.string ((nth xs ((k : Int) - 1)).2)), (.string ((⟨#[]⟩ : ByteArray))), (.string ((⟨#[]⟩ : ByteArray)))]) rfl rfl rfl rfl Try.underlying22 Try.sizeOf36 Try.zeroValue36 rfl (by decide) (by decide) (fun _ _ _ _ c => fill4 (c.n 4 rfl) (c.n 5 rfl) (c.n 9 rfl) (c.n 10 rfl) (by kernel_rfl)) rfl,
    Ob.append (t0 := 3) rfl rfl rfl rfl Try.underlying22 (i := Try.t36) rfl rfl rfl rfl (by simp only [maxLen]; (try simp); omega) (by show _ * 32 ≤ _; (try simp); omega) (fun _ _ _ _ c => ⟨c.ip 0 rfl e3, c.sm (c.n 0 rfl) e3, ⟨_, rfl, (c.ro 11 rfl).1.sl⟩⟩),
    Ob.moveT (t0 := 27) rfl rfl rfl rfl rfl (.inr rfl) (fun _ _ _ _ c => ⟨c.ro 12 rfl, rfl⟩), trivial⟩ ?_
   intro a8 w8 τ8 st8 f8
   obtain ⟨b8x26, e26⟩ : ∃ b, get a8 26 = b := ⟨_, rfl⟩
   obtain ⟨b8x3, e3⟩ : ∃ b, get a8 3 = b := ⟨_, rfl⟩
   obtain ⟨e0, e2, e4, e12, -⟩ := f8.ks [(0, _), (2, _), (4, _), (12, _)] ⟨e0, e2, e4, e12, trivial⟩
   replace r0 : ownR RowE 36 ((backR (xs.drop k)) ++ ([(nth xs ((k : Int) - 1)), ((⟨#[98]⟩ : ByteArray), (⟨#[97]⟩ : ByteArray)), (nth xs ((k : Int) - 1)), ((⟨#[]⟩ : ByteArray), (⟨#[]⟩ : ByteArray))])) (τ8 0) b8x3 w8 := f8.ro 13 e3 rfl
   have r1 : ownR RowE 36 ([(nth xs ((k : Int) - 1)), ((⟨#[98]⟩ : ByteArray), (⟨#[97]⟩ : ByteArray)), (nth xs ((k : Int) - 1)), ((⟨#[]⟩ : ByteArray), (⟨#[]⟩ : ByteArray))]) (τ8 1) b8x26 w8 := f8.ro 11 e26 rfl
   clear f8
   show _
   show Code.wp _ _ _ a8 w8
   refine region_St (bf := [0, 1, 3]) (sp := [det _ 13 _, det _ 14 _, det _ 4 _]) [io r0, io r1] mixed st8 (by kernel_rfl) ⟨r0, r1, trivial⟩
    ⟨Ob.d fun c => r_move rfl (c.p e4),
    Ob.d fun c => r_sub rfl (c.n 0 rfl) rfl (by omega),
    Ob.d fun c => r_assign rfl (c.n 1 rfl), trivial⟩ ?_
   intro a9 w9 τ9 st9 f9
   obtain ⟨e0, e2, e3, e12, -⟩ := f9.ks [(0, _), (2, _), (3, _), (12, _)] ⟨e0, e2, e3, e12, trivial⟩
   have e4 : get a9 4 = (.int .i64 ((k : Int) - 1 - 1)) := f9.v 2 rfl
   replace r0 := f9.io 0 rfl
   replace r1 := f9.io 1 rfl
   clear f9
   refine ⟨⟨k - 1, b8x3, τ9, ?_, st9, e3, (e4.trans (int_eq (by omega))), e0, e2, ?_⟩, ?_⟩
   · omega
   · exact r0.cast (by have hb_ := backR_step (xs := xs) (k := k - 1) (by omega); rw [show k - 1 + 1 = k by omega, show ((k - 1 : Nat) : Int) = (k : Int) - 1 by omega] at hb_; exact hb_)
   · simp only [m4, e4, intOf]; omega
 try simp only [decide_eq_false_iff_not, Int.not_le] at hc2
 refine wp_exit ?_
 repeat (with_reducible refine then_exit ?_)
 refine exit_here ?_
 show Code.wp _ _ _ a7 w7
 refine wp_seq ?_
 have hk0 : k = 0 := by omega
 have hbs := backR_small hz
 have hbl2 := backR_len xs
 replace r0 := r0.cast (show backR xs = backR (xs.drop k) from by rw [hk0, List.drop_zero])
 refine region_St (bf := [0, 1, 0, 7, 15, 31, 63, 127, 255]) (sp := [det _ 28 _, own _ _ _ 1 29 _, det _ 30 _, own _ _ _ 2 31 _, det _ 32 _, det _ 33 _, gdet _ 34 _ _, det _ 35 _, det _ 2 _]) [io r0] mixed st7 (by kernel_rfl) ⟨r0, trivial⟩
  ⟨Ob.d fun c => r_move rfl (c.p e0),
  Ob.callOwn rfl rfl rfl (fun _ a_ _ _ c => ⟨_, _, (e_call1 rfl rfl Try.call14 (c.n 0 rfl)), union_c v xs _ (hS.at (st7.ext.trans c.J.ext)) (by first | assumption | (unfold Small; decide)) (by omega)⟩),
  Ob.d fun c => r_move rfl (c.p e3),
  Ob.callOwn rfl rfl rfl (fun _ a_ _ _ c => ⟨_, _, (e_call1 rfl rfl Try.call14 (c.n 2 rfl)), union_c u (backR xs) _ (c.io 0 rfl).1.sl (by first | assumption | (unfold Small; decide)) (by omega)⟩),
  Ob.c fun c => ⟨_, _, (e_call2 rfl rfl Try.call13 (eval_tmp _ 29) (eval_tmp _ 31)), rows_c _ _ (unionT xs) (unionT (backR xs)) _ (c.ro 1 rfl).1.sl (c.ro 3 rfl).1.sl⟩,
  Ob.d fun c => r_move rfl (c.n 4 rfl),
  Ob.gc 5 true rfl fun c hpc => ⟨_, _, (e_call0 rfl rfl Try.call10), awake_c _⟩,
  Ob.d fun c => r_and rfl (c.n 5 rfl) (fun h => c.m 6 rfl h),
  Ob.d fun c => r_assign rfl (c.n 7 rfl), trivial⟩ ?_
 intro a10 w10 τ10 st10 f10
 obtain ⟨b10x29, e29⟩ : ∃ b, get a10 29 = b := ⟨_, rfl⟩
 obtain ⟨b10x31, e31⟩ : ∃ b, get a10 31 = b := ⟨_, rfl⟩
 have e2 : get a10 2 = (.bool ((decide (unionT xs = unionT (backR xs))) && true)) := f10.v 8 rfl
 clear f10
 show Code.wp _ _ _ a10 w10
 refine wp_ret ?_
 repeat (first | with_reducible refine then_ret ?_ | with_reducible refine block_ret ?_)
 refine ret1 (fn := Try.f6) rfl st10.defers e2 ?_
 exact ⟨congrArg _ (congrArg _ (show ((decide (unionT xs = unionT (backR xs))) && true) = true from by rw [← backR_union]; simp)), st10.ext0⟩
end B
end Go.Proofs.Ythaeepiichphjaa
