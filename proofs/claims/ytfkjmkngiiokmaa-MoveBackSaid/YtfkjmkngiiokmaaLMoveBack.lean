/-
  Walks, printed by a program (gen.py): LMoveBack.
-/
import Derived.Test.YtfkjmkngiiokmaaChC
import Derived.Test.YtfkjmkngiiokmaaChgL
set_option linter.unusedSimpArgs false
set_option linter.unusedVariables false
namespace Go.Proofs.Ytfkjmkngiiokmaa
namespace B
open Go.RowKit
open Srt
set_option maxRecDepth 100000 in
set_option maxHeartbeats 4000000 in
theorem moveBack_c (s : ByteArray) (v : Value) (xs : List (Int × Int × ByteArray)) (n : Int) (w : World) (hS : SlT EditE w v xs) : Calls Try.prog 12 #[(.string (s)), v, (.int .i64 (n))] w (fun e w' => e = .returned (.bool (true)) ∧ Ext none' w w') := by
 refine enter (n := 76) Try.func12 rfl rfl (Nat.le_of_ble_eq_true rfl) ?_
 intro a0 τ0 ha st0
 have e0 : get a0 0 = (.string (s)) := ha 0 _ rfl
 have e1 : get a0 1 = v := ha 1 _ rfl
 have e2 : get a0 2 = (.int .i64 (n)) := ha 2 _ rfl
 clear ha
 refine wp_seq ?_
 refine region_St (bf := [0]) (sp := [det _ 6 _]) [] mixed st0 (by kernel_rfl) trivial
  ⟨Ob.d fun c => r_assign rfl rfl, trivial⟩ ?_
 intro a1 w1 τ1 st1 f1
 obtain ⟨e0, e1, e2, -⟩ := f1.ks [(0, _), (1, _), (2, _)] ⟨e0, e1, e2, trivial⟩
 have e6 : get a1 6 = (.bool (false)) := f1.v 0 rfl
 clear f1
 show Code.wp _ _ _ a1 w1
 refine wp_seq ?_
 refine wp_seq ?_
 refine region_St (bf := [0, 1, 3, 7, 15, 31, 63, 127]) (sp := [det _ 13 _, det _ 14 _, det _ 15 _, det _ 16 _, gdet _ 17 _ _, gdet _ 18 _ _, gdet _ 19 _ _, det _ 20 _]) [] mixed st1 (by kernel_rfl) trivial
  ⟨Ob.d fun c => r_move rfl (c.p e0),
  Ob.d fun c => r_lenS rfl Try.underlying9 (c.n 0 rfl),
  Ob.d fun c => r_gtr rfl (c.n 1 rfl) rfl,
  Ob.d fun c => r_move rfl (c.n 2 rfl),
  Ob.g 3 false rfl fun c hpc => r_move rfl (c.p e0),
  Ob.g 3 false rfl fun c hpc => r_lenS rfl Try.underlying9 (c.m 4 rfl hpc),
  Ob.g 3 false rfl fun c hpc => r_eql rfl (c.m 5 rfl hpc) rfl,
  Ob.d fun c => r_or rfl (c.n 3 rfl) (fun h => c.m 6 rfl h), trivial⟩ ?_
 intro a2 w2 τ2 st2 f2
 obtain ⟨e0, e1, e2, e6, -⟩ := f2.ks [(0, _), (1, _), (2, _), (6, _)] ⟨e0, e1, e2, e6, trivial⟩
 have e20 : get a2 20 = (.bool ((decide (200 < (s.size : Int))) || (decide ((s.size : Int) = 0)))) := f2.v 7 rfl
 clear f2
 show Code.wp _ _ _ a2 w2
 refine wp_cond_split (t := (decide (200 < (s.size : Int))) || (decide ((s.size : Int) = 0))) e20 (fun hc1 => ?_) (fun hc1 => ?_)
 · try simp only [Bool.or_eq_true, decide_eq_true_eq] at hc1
   refine wp_seq ?_
   refine region_St (bf := [0, 1]) (sp := [det _ 21 _, det _ 6 _]) [] mixed st2 (by kernel_rfl) trivial
    ⟨Ob.c fun c => ⟨_, _, (e_call0 rfl rfl Try.call14), awake_c _⟩,
    Ob.d fun c => r_assign rfl (c.n 0 rfl), trivial⟩ ?_
   intro a3 w3 τ3 st3 f3
   obtain ⟨e0, e1, e2, -⟩ := f3.ks [(0, _), (1, _), (2, _)] ⟨e0, e1, e2, trivial⟩
   have e6 : get a3 6 = (.bool (true)) := f3.v 1 rfl
   clear f3
   show Code.wp _ _ _ a3 w3
   refine wp_ret ?_
   repeat (first | with_reducible refine then_ret ?_ | with_reducible refine block_ret ?_)
   refine ret1 (fn := Try.f12) rfl st3.defers e6 ?_
   exact ⟨rfl, st3.ext0⟩
 try simp only [Bool.or_eq_false_iff, decide_eq_false_iff_not, Int.not_lt] at hc1
 refine wp_skip ?_
 show Code.wp _ _ _ a2 w2
 refine wp_seq ?_
 obtain ⟨hs2, hs0⟩ := (by assumption : (s.size : Int) ≤ 200 ∧ ¬ (s.size : Int) = 0)
 refine region_St (bf := [0, 1, 0, 7, 15]) (sp := [det _ 22 _, det _ 23 _, det _ 24 _, own _ _ _ 0 25 _, own _ _ _ 0 7 _]) [] mixed st2 (by kernel_rfl) trivial
  ⟨Ob.d fun c => r_move rfl (c.p e0),
  Ob.d fun c => r_lenS rfl Try.underlying9 (c.n 0 rfl),
  Ob.d fun c => r_move rfl (c.p e1),
  Ob.callOwn rfl rfl rfl (fun _ a_ _ _ c => ⟨_, _, (e_call2 rfl rfl Try.call24 (c.n 1 rfl) (c.n 2 rfl)), apartP_c (s.size : Int) v xs _ (hS.at (st2.ext.trans c.J.ext)) (by omega) (by omega)⟩),
  Ob.moveT (t0 := 25) rfl rfl rfl rfl rfl (.inr rfl) (fun _ _ _ _ c => ⟨c.ro 3 rfl, rfl⟩), trivial⟩ ?_
 intro a4 w4 τ4 st4 f4
 obtain ⟨b4x7, e7⟩ : ∃ b, get a4 7 = b := ⟨_, rfl⟩
 obtain ⟨e0, e2, e6, -⟩ := f4.ks [(0, _), (2, _), (6, _)] ⟨e0, e2, e6, trivial⟩
 have r0 : ownR EditE 45 (apF (s.size : Int) xs) (τ4 0) b4x7 w4 := f4.ro 4 e7 rfl
 clear f4
 obtain ⟨hap, hez, hel⟩ := apF_ap (n := (s.size : Int)) (by omega) xs
 obtain ⟨f1, f2, f3, f4⟩ := facts6 hap (List.Perm.refl _) (by omega) (by omega) (by omega)
 show Code.wp _ _ _ a4 w4
 refine wp_seq ?_
 refine region_St (bf := [0, 0, 2, 7, 15]) (sp := [det _ 26 _, det _ 27 _, det _ 28 _, det _ 29 _, det _ 8 _]) [io r0] mixed st4 (by kernel_rfl) ⟨r0, trivial⟩
  ⟨Ob.d fun c => r_move rfl (c.p e2),
  Ob.d fun c => r_move rfl (c.p e0),
  Ob.d fun c => r_lenS rfl Try.underlying9 (c.n 1 rfl),
  Ob.c fun c => ⟨_, _, (e_call2 rfl rfl Try.call28 (c.n 0 rfl) (c.n 2 rfl)), low_c n (s.size : Int) _ (by omega) (by omega)⟩,
  Ob.d fun c => r_assign rfl (c.n 3 rfl), trivial⟩ ?_
 intro a5 w5 τ5 st5 f5
 obtain ⟨e0, e6, e7, -⟩ := f5.ks [(0, _), (6, _), (7, _)] ⟨e0, e6, e7, trivial⟩
 have e8 : get a5 8 = (.int .i64 (lowF n (s.size : Int))) := f5.v 4 rfl
 replace r0 := f5.io 0 rfl
 clear f5
 have hlow := low_range n (s.size : Int) (by omega) (by omega)
 obtain ⟨k, hk⟩ : ∃ x_ : Nat, lowF n (s.size : Int) = (x_ : Int) := ⟨(lowF n (s.size : Int)).toNat, by omega⟩
 replace e8 := e8.trans (int_eq hk)
 show Code.wp _ _ _ a5 w5
 refine wp_seq ?_
 refine wp_seq ?_
 refine region_St (bf := [0]) (sp := [det _ 9 _]) [io r0] mixed st5 (by kernel_rfl) ⟨r0, trivial⟩
  ⟨Ob.d fun c => r_assign rfl rfl, trivial⟩ ?_
 intro a6 w6 τ6 st6 f6
 obtain ⟨e0, e6, e7, e8, -⟩ := f6.ks [(0, _), (6, _), (7, _), (8, _)] ⟨e0, e6, e7, e8, trivial⟩
 have e9 : get a6 9 = (.int .i64 (0)) := f6.v 0 rfl
 replace r0 := f6.io 0 rfl
 clear f6
 show Code.wp _ _ _ a6 w6
 refine wp_block ?_
 refine wp_loop (fun a_ w_ => ∃ (j : Nat) (τ : Nat → Foot), (j ≤ (apF (s.size : Int) xs).length) ∧
      (∀ i < j, (decide ((nth (apF (s.size : Int) xs) ((i : Nat) : Int)).1 ≤ (k : Int)) && decide ((k : Int) < (nth (apF (s.size : Int) xs) ((i : Nat) : Int)).2.1)) = false) ∧
      St (Nw w) w 76 a_ w_ τ ∧
      get a_ 9 = (.int .i64 ((j : Int))) ∧
      get a_ 0 = (.string (s)) ∧
      get a_ 7 = b4x7 ∧
      get a_ 8 = (.int .i64 ((k : Int))) ∧
      ownR EditE 45 (apF (s.size : Int) xs) (τ 0) b4x7 w_) (fun a_ _ => (apF (s.size : Int) xs).length - (intOf (get a_ 9)).toNat) ?_ ?_
 · refine ⟨0, τ6, ?_, ?_, st6, (e9.trans (int_eq (by omega))), e0, e7, e8, r0⟩
   · omega
   · intro i hi; omega
 intro a7 w7 hI
 obtain ⟨j, τ7, q0, q1, st7, e9, e0, e7, e8, r0⟩ := hI
 have m9 := e9
 refine wp_seq ?_
 refine wp_seq ?_
 refine region_St (bf := [0, 0, 2, 7]) (sp := [det _ 30 _, det _ 31 _, det _ 32 _, det _ 33 _]) [io r0] mixed st7 (by kernel_rfl) ⟨r0, trivial⟩
  ⟨Ob.d fun c => r_move rfl (c.p e9),
  Ob.d fun c => r_move rfl (c.p e7),
  Ob.d fun c => r_len rfl Try.underlying22 (c.n 1 rfl) r0.isSl,
  Ob.d fun c => r_lss rfl (c.n 0 rfl) (c.n 2 rfl), trivial⟩ ?_
 intro a8 w8 τ8 st8 f8
 obtain ⟨e0, e7, e8, e9, -⟩ := f8.ks [(0, _), (7, _), (8, _), (9, _)] ⟨e0, e7, e8, e9, trivial⟩
 have e33 : get a8 33 = (.bool (decide ((j : Int) < ((apF (s.size : Int) xs).length : Int)))) := f8.v 3 rfl
 replace r0 := f8.io 0 rfl
 clear f8
 show Code.wp _ _ _ a8 w8
 refine wp_cond_split (t := decide ((j : Int) < ((apF (s.size : Int) xs).length : Int))) e33 (fun hc2 => ?_) (fun hc2 => ?_)
 · try simp only [decide_eq_true_eq] at hc2
   refine wp_skip ?_
   show Code.wp _ _ _ a8 w8
   refine wp_seq ?_
   refine wp_block ?_
   refine wp_seq ?_
   refine region_St (bf := [0, 0, 3, 7, 15, 31, 0, 127, 255, 511, 511, 511, 3583, 7679, 15871, 32255, 65535, 131071]) (sp := [det _ 36 _, det _ 37 _, det _ 38 _, det _ 39 _, det _ 40 _, det _ 41 _, det _ 42 _, det _ 43 _, det _ 44 _, gdet _ 45 _ _, gdet _ 46 _ _, gdet _ 47 _ _, gdet _ 48 _ _, gdet _ 49 _ _, gdet _ 50 _ _, gdet _ 51 _ _, gdet _ 52 _ _, det _ 53 _]) [io r0] mixed st8 (by kernel_rfl) ⟨r0, trivial⟩
    ⟨Ob.d fun c => r_move rfl (c.p e7),
    Ob.d fun c => r_move rfl (c.p e9),
    Ob.d fun c => r_indexAddr rfl Try.underlying22 Try.sizeOf45 (c.n 0 rfl) r0.isSl (c.n 1 rfl) (by omega) (by omega),
    Ob.d fun c => r_fieldAddr rfl Try.underlying45 rfl rfl Try.sizeOf43 (c.n 2 rfl),
    Ob.d fun c => r_fieldAddr rfl Try.underlying43 rfl rfl Try.sizeOf3 (c.n 3 rfl),
    Ob.d fun c => r_load1 rfl Try.isAgg3 (c.n 4 rfl) (by have h_ := ((c.io 0 rfl).1.sl).elem (j := 0) (nth_some (i := (j : Int)) (by omega) (by omega)) rfl; rw [add_add] at h_; rw [add_add, add_add]; exact h_),
    Ob.d fun c => r_move rfl (c.p e8),
    Ob.d fun c => r_leq rfl (c.n 5 rfl) (c.n 6 rfl),
    Ob.d fun c => r_move rfl (c.n 7 rfl),
    Ob.g 8 true rfl fun c hpc => r_move rfl (c.p e8),
    Ob.g 8 true rfl fun c hpc => r_move rfl (c.p e7),
    Ob.g 8 true rfl fun c hpc => r_move rfl (c.p e9),
    Ob.g 8 true rfl fun c hpc => r_indexAddr rfl Try.underlying22 Try.sizeOf45 (c.m 10 rfl hpc) r0.isSl (c.m 11 rfl hpc) (by have hq0 := bt hpc; omega) (by have hq0 := bt hpc; omega),
    Ob.g 8 true rfl fun c hpc => r_fieldAddr rfl Try.underlying45 rfl rfl Try.sizeOf43 (c.m 12 rfl hpc),
    Ob.g 8 true rfl fun c hpc => r_fieldAddr rfl Try.underlying43 rfl rfl Try.sizeOf3 (c.m 13 rfl hpc),
    Ob.g 8 true rfl fun c hpc => r_load1 rfl Try.isAgg3 (c.m 14 rfl hpc) (by have h_ := ((c.io 0 rfl).1.sl).elem (j := 1) (nth_some (i := (j : Int)) (by have hq0 := bt hpc; omega) (by have hq0 := bt hpc; omega)) rfl; rw [add_add] at h_; rw [add_add, add_add]; exact h_),
    Ob.g 8 true rfl fun c hpc => r_lss rfl (c.m 9 rfl hpc) (c.m 15 rfl hpc),
    Ob.d fun c => r_and rfl (c.n 8 rfl) (fun h => c.m 16 rfl h), trivial⟩ ?_
   intro a9 w9 τ9 st9 f9
   obtain ⟨e0, e7, e8, e9, e33, -⟩ := f9.ks [(0, _), (7, _), (8, _), (9, _), (33, _)] ⟨e0, e7, e8, e9, e33, trivial⟩
   have e53 : get a9 53 = (.bool ((decide ((nth (apF (s.size : Int) xs) ((j : Int))).1 ≤ (k : Int))) && (decide ((k : Int) < (nth (apF (s.size : Int) xs) ((j : Int))).2.1)))) := f9.v 17 rfl
   replace r0 := f9.io 0 rfl
   clear f9
   show Code.wp _ _ _ a9 w9
   refine wp_cond_split (t := (decide ((nth (apF (s.size : Int) xs) ((j : Int))).1 ≤ (k : Int))) && (decide ((k : Int) < (nth (apF (s.size : Int) xs) ((j : Int))).2.1))) e53 (fun hc3 => ?_) (fun hc3 => ?_)
   · have hd3 := hc3; try simp only [Bool.and_eq_true, decide_eq_true_eq] at hd3
     refine wp_seq ?_
     refine region_St (bf := [0, 1]) (sp := [det _ 54 _, det _ 6 _]) [io r0] mixed st9 (by kernel_rfl) ⟨r0, trivial⟩
      ⟨Ob.c fun c => ⟨_, _, (e_call0 rfl rfl Try.call14), awake_c _⟩,
      Ob.d fun c => r_assign rfl (c.n 0 rfl), trivial⟩ ?_
     intro a10 w10 τ10 st10 f10
     obtain ⟨e0, e7, e8, e9, e33, e53, -⟩ := f10.ks [(0, _), (7, _), (8, _), (9, _), (33, _), (53, _)] ⟨e0, e7, e8, e9, e33, e53, trivial⟩
     have e6 : get a10 6 = (.bool (true)) := f10.v 1 rfl
     replace r0 := f10.io 0 rfl
     clear f10
     show Code.wp _ _ _ a10 w10
     refine wp_ret ?_
     repeat (first | with_reducible refine then_ret ?_ | with_reducible refine block_ret ?_)
     refine ret1 (fn := Try.f12) rfl st10.defers e6 ?_
     exact ⟨rfl, st10.ext0⟩
   have hd3 := hc3; try simp only [Bool.and_eq_false_iff, decide_eq_false_iff_not, Int.not_lt, Int.not_le] at hd3
   refine wp_skip ?_
   show _
   show Code.wp _ _ _ a9 w9
   refine region_St (bf := [0, 1, 3]) (sp := [det _ 34 _, det _ 35 _, det _ 9 _]) [io r0] mixed st9 (by kernel_rfl) ⟨r0, trivial⟩
    ⟨Ob.d fun c => r_move rfl (c.p e9),
    Ob.d fun c => r_add rfl (c.n 0 rfl) rfl (by omega),
    Ob.d fun c => r_assign rfl (c.n 1 rfl), trivial⟩ ?_
   intro a11 w11 τ11 st11 f11
   obtain ⟨e0, e7, e8, e33, e53, -⟩ := f11.ks [(0, _), (7, _), (8, _), (33, _), (53, _)] ⟨e0, e7, e8, e33, e53, trivial⟩
   have e9 : get a11 9 = (.int .i64 ((j : Int) + 1)) := f11.v 2 rfl
   replace r0 := f11.io 0 rfl
   clear f11
   refine ⟨⟨j + 1, τ11, ?_, ?_, st11, (e9.trans (int_eq (by omega))), e0, e7, e8, r0⟩, ?_⟩
   · omega
   · exact upto_succ (f := fun i => (decide ((nth (apF (s.size : Int) xs) i).1 ≤ (k : Int)) && decide ((k : Int) < (nth (apF (s.size : Int) xs) i).2.1))) q1 (by assumption)
   · simp only [m9, e9, intOf]; omega
 try simp only [decide_eq_false_iff_not, Int.not_lt] at hc2
 refine wp_exit ?_
 repeat (with_reducible refine then_exit ?_)
 refine exit_here ?_
 show Code.wp _ _ _ a8 w8
 refine wp_seq ?_
 have hkp := kept_of (by omega) q1
 obtain ⟨p1, p2, p3, p4⟩ := keeps hap hkp (by omega)
 have hB := back_facts hap
 have hTs := tx_small hap
 have hB2 := hB.sz
 have hB3 := hB.len
 refine region_St (bf := [0, 0, 3, 7, 15, 15, 31, 127]) (sp := [det _ 56 _, det _ 57 _, tup _ _ _ 1 58 _ _, tup _ _ _ 1 55 _ _, own _ _ _ 1 59 _, det _ 60 _, own _ _ _ 1 10 _, det _ 11 _]) [io r0] mixed st8 (by kernel_rfl) ⟨r0, trivial⟩
  ⟨Ob.d fun c => r_move rfl (c.p e0),
  Ob.d fun c => r_move rfl (c.p e7),
  Ob.callTup rfl rfl rfl (fun _ a_ _ _ c => ⟨_, _, (e_call2 rfl rfl Try.call17 (c.n 0 rfl) (c.n 1 rfl)), backE_c s b4x7 (apF (s.size : Int) xs) _ (c.io 0 rfl).1.sl (by omega) (by omega) (by omega)⟩),
  Ob.moveT (t0 := 58) rfl rfl rfl rfl rfl (.inl rfl) (fun _ _ _ _ c => ⟨c.rtup 2 rfl rfl (by kernel_rfl), rfl⟩),
  Ob.part0 (t0 := 55) (k := (.int .i64 (mayEd (s.size : Int) (apF (s.size : Int) xs)))) rfl rfl rfl rfl (fun _ _ _ _ c => c.rtup 3 rfl rfl (by kernel_rfl)),
  Ob.d fun c => c.part1 3 rfl rfl rfl,
  Ob.moveT (t0 := 59) rfl rfl rfl rfl rfl (.inr rfl) (fun _ _ _ _ c => ⟨c.ro 4 rfl, rfl⟩),
  Ob.d fun c => r_assign rfl (c.n 5 rfl), trivial⟩ ?_
 intro a12 w12 τ12 st12 f12
 obtain ⟨b12x10, e10⟩ : ∃ b, get a12 10 = b := ⟨_, rfl⟩
 obtain ⟨e7, e8, -⟩ := f12.ks [(7, _), (8, _)] ⟨e7, e8, trivial⟩
 have e11 : get a12 11 = (.int .i64 (mayEd (s.size : Int) (apF (s.size : Int) xs))) := f12.v 7 rfl
 replace r0 := f12.io 0 rfl
 have r1 : ownR EditE 45 (backF s (apF (s.size : Int) xs)) (τ12 1) b12x10 w12 := f12.ro 6 e10 rfl
 clear f12
 replace r1 := r1.cast (show (backL s (apF (s.size : Int) xs)) = backF s (apF (s.size : Int) xs) from by exact f3.symm)
 replace e11 := e11.trans (int_eq (show mayEd (s.size : Int) (apF (s.size : Int) xs) = ((0 : Int) : Int) from by exact f1))
 show Code.wp _ _ _ a12 w12
 refine wp_seq ?_
 refine region_St (bf := [0, 0, 3, 7]) (sp := [det _ 61 _, det _ 62 _, det _ 63 _, det _ 12 _]) [io r0, io r1] mixed st12 (by kernel_rfl) ⟨r0, r1, trivial⟩
  ⟨Ob.d fun c => r_move rfl (c.p e8),
  Ob.d fun c => r_move rfl (c.p e7),
  Ob.c fun c => ⟨_, _, (e_call3 rfl rfl Try.call27 (c.n 0 rfl) rfl (c.n 1 rfl)), moveE_c (k : Int) true b4x7 (apF (s.size : Int) xs) _ (c.io 0 rfl).1.sl (by omega)⟩,
  Ob.d fun c => r_assign rfl (c.n 2 rfl), trivial⟩ ?_
 intro a13 w13 τ13 st13 f13
 obtain ⟨e8, e10, e11, -⟩ := f13.ks [(8, _), (10, _), (11, _)] ⟨e8, e10, e11, trivial⟩
 have e12 : get a13 12 = (.int .i64 (moveW (k : Int) true (apF (s.size : Int) xs))) := f13.v 3 rfl
 replace r1 := f13.io 1 rfl
 clear f13
 replace e12 := e12.trans (int_eq (show moveW (k : Int) true (apF (s.size : Int) xs) = (mvL true (k : Int) (apF (s.size : Int) xs) : Int) from by exact (moveW_eq hap (List.Perm.refl _) (by omega) (by omega) (by omega) (by omega)).1))
 show Code.wp _ _ _ a13 w13
 refine wp_seq ?_
 refine region_St (bf := [0, 1, 3, 7, 7, 31, 7, 127, 255, 511, 1023, 2047, 4095]) (sp := [det _ 64 _, det _ 65 (.bool (true)), det _ 66 _, det _ 67 _, det _ 68 _, det _ 69 _, det _ 70 _, det _ 71 (.bool (true)), det _ 72 _, det _ 73 _, det _ 74 _, det _ 75 _, det _ 6 _]) [Ini.any _, io r1] mixed st13 (by kernel_rfl) ⟨trivial, r1, trivial⟩
  ⟨Ob.d fun c => r_move rfl (c.p e11),
  Ob.d (v := (.bool (true))) fun c => Runs.isB (b := decide ((0 : Int) = 0)) (r_eql rfl (c.n 0 rfl) rfl) (by decide),
  Ob.d fun c => r_move rfl (c.n 1 rfl),
  Ob.lv 2 (Ob.d fun c => r_move rfl (c.p e12)),
  Ob.lv 2 (Ob.d fun c => r_move rfl (c.p e10)),
  Ob.lv 2 (Ob.c fun c => ⟨_, _, (e_call3 rfl rfl Try.call27 (c.n 3 rfl) rfl (c.n 4 rfl)), moveE_c (mvL true (k : Int) (apF (s.size : Int) xs)) true b12x10 (backL s (apF (s.size : Int) xs)) _ (c.io 1 rfl).1.sl (by omega)⟩),
  Ob.lv 2 (Ob.d fun c => r_move rfl (c.p e8)),
  Ob.lv 2 (Ob.d (v := (.bool (true))) fun c => Runs.isB (b := decide (moveW (mvL true (k : Int) (apF (s.size : Int) xs)) true (backL s (apF (s.size : Int) xs)) = (k : Int))) (r_eql rfl (c.n 5 rfl) (c.n 6 rfl)) (by exact decide_eq_true (by rw [(moveW_eq hB.ap (List.Perm.refl _) (by omega) (by omega) (by omega) (by omega)).1]; exact moves_back hap hkp))),
  Ob.d fun c => r_pick rfl (c.n 2 rfl) (fun _ => c.n 7 rfl) (fun h => by cases h),
  Ob.d fun c => r_move rfl (c.n 8 rfl),
  Ob.lv 9 (Ob.c fun c => ⟨_, _, (e_call0 rfl rfl Try.call14), awake_c _⟩),
  Ob.d fun c => r_pick rfl (c.n 9 rfl) (fun _ => c.n 10 rfl) (fun h => by cases h),
  Ob.d fun c => r_assign rfl (c.n 11 rfl), trivial⟩ ?_
 intro a14 w14 τ14 st14 f14
 have e6 : get a14 6 = (.bool (true)) := f14.v 12 rfl
 clear f14
 show Code.wp _ _ _ a14 w14
 refine wp_ret ?_
 repeat (first | with_reducible refine then_ret ?_ | with_reducible refine block_ret ?_)
 refine ret1 (fn := Try.f12) rfl st14.defers e6 ?_
 exact ⟨rfl, st14.ext0⟩
end B
end Go.Proofs.Ytfkjmkngiiokmaa
