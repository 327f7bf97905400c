/-
  Walks, printed by a program (gen.py): LChangeSingly.
-/
import Derived.Test.YtfkjmkngiiokmaaChC
import Derived.Test.YtfkjmkngiiokmaaChgL
set_option linter.unusedSimpArgs false
set_option linter.unusedVariables false
namespace Go.Proofs.Ytfkjmkngiiokmaa
namespace B
open Go.RowKit
open Srt
set_option maxRecDepth 100000 in
set_option maxHeartbeats 4000000 in
theorem changeSingly_c (s : ByteArray) (v : Value) (xs : List (Int × Int × ByteArray)) (b : Int) (w : World) (hS : SlT EditE w v xs) : Calls Try.prog 5 #[(.string (s)), v, (.int .i64 (b))] w (fun e w' => e = .returned (.bool (true)) ∧ Ext none' w w') := by
 refine enter (n := 70) Try.func5 rfl rfl (Nat.le_of_ble_eq_true rfl) ?_
 intro a0 τ0 ha st0
 have e0 : get a0 0 = (.string (s)) := ha 0 _ rfl
 have e1 : get a0 1 = v := ha 1 _ rfl
 have e2 : get a0 2 = (.int .i64 (b)) := ha 2 _ rfl
 clear ha
 refine wp_seq ?_
 refine region_St (bf := [0]) (sp := [det _ 6 _]) [] mixed st0 (by kernel_rfl) trivial
  ⟨Ob.d fun c => r_assign rfl rfl, trivial⟩ ?_
 intro a1 w1 τ1 st1 f1
 obtain ⟨e0, e1, e2, -⟩ := f1.ks [(0, _), (1, _), (2, _)] ⟨e0, e1, e2, trivial⟩
 have e6 : get a1 6 = (.bool (false)) := f1.v 0 rfl
 clear f1
 show Code.wp _ _ _ a1 w1
 refine wp_seq ?_
 refine wp_seq ?_
 refine region_St (bf := [0, 1, 3]) (sp := [det _ 14 _, det _ 15 _, det _ 16 _]) [] mixed st1 (by kernel_rfl) trivial
  ⟨Ob.d fun c => r_move rfl (c.p e0),
  Ob.d fun c => r_lenS rfl Try.underlying9 (c.n 0 rfl),
  Ob.d fun c => r_gtr rfl (c.n 1 rfl) rfl, trivial⟩ ?_
 intro a2 w2 τ2 st2 f2
 obtain ⟨e0, e1, e2, e6, -⟩ := f2.ks [(0, _), (1, _), (2, _), (6, _)] ⟨e0, e1, e2, e6, trivial⟩
 have e16 : get a2 16 = (.bool (decide (200 < (s.size : Int)))) := f2.v 2 rfl
 clear f2
 show Code.wp _ _ _ a2 w2
 refine wp_cond_split (t := decide (200 < (s.size : Int))) e16 (fun hc1 => ?_) (fun hc1 => ?_)
 · try simp only [decide_eq_true_eq] at hc1
   refine wp_seq ?_
   refine region_St (bf := [0, 1]) (sp := [det _ 17 _, det _ 6 _]) [] mixed st2 (by kernel_rfl) trivial
    ⟨Ob.c fun c => ⟨_, _, (e_call0 rfl rfl Try.call14), awake_c _⟩,
    Ob.d fun c => r_assign rfl (c.n 0 rfl), trivial⟩ ?_
   intro a3 w3 τ3 st3 f3
   obtain ⟨e0, e1, e2, -⟩ := f3.ks [(0, _), (1, _), (2, _)] ⟨e0, e1, e2, trivial⟩
   have e6 : get a3 6 = (.bool (true)) := f3.v 1 rfl
   clear f3
   show Code.wp _ _ _ a3 w3
   refine wp_ret ?_
   repeat (first | with_reducible refine then_ret ?_ | with_reducible refine block_ret ?_)
   refine ret1 (fn := Try.f5) rfl st3.defers e6 ?_
   exact ⟨rfl, st3.ext0⟩
 try simp only [decide_eq_false_iff_not, Int.not_lt] at hc1
 refine wp_skip ?_
 show Code.wp _ _ _ a2 w2
 refine wp_seq ?_
 refine region_St (bf := [0, 1, 0, 7, 15]) (sp := [det _ 18 _, det _ 19 _, det _ 20 _, own _ _ _ 0 21 _, own _ _ _ 0 7 _]) [] mixed st2 (by kernel_rfl) trivial
  ⟨Ob.d fun c => r_move rfl (c.p e0),
  Ob.d fun c => r_lenS rfl Try.underlying9 (c.n 0 rfl),
  Ob.d fun c => r_move rfl (c.p e1),
  Ob.callOwn rfl rfl rfl (fun _ a_ _ _ c => ⟨_, _, (e_call2 rfl rfl Try.call24 (c.n 1 rfl) (c.n 2 rfl)), apartP_c (s.size : Int) v xs _ (hS.at (st2.ext.trans c.J.ext)) (by first | omega | (rw [sizes_one]; omega) | (simp only [List.length_cons, List.length_nil]; omega)) (by first | omega | (rw [sizes_one]; omega) | (simp only [List.length_cons, List.length_nil]; omega))⟩),
  Ob.moveT (t0 := 21) rfl rfl rfl rfl rfl (.inr rfl) (fun _ _ _ _ c => ⟨c.ro 3 rfl, rfl⟩), trivial⟩ ?_
 intro a4 w4 τ4 st4 f4
 obtain ⟨b4x7, e7⟩ : ∃ b, get a4 7 = b := ⟨_, rfl⟩
 obtain ⟨e0, e2, e6, -⟩ := f4.ks [(0, _), (2, _), (6, _)] ⟨e0, e2, e6, trivial⟩
 have r0 : ownR EditE 45 (apF (s.size : Int) xs) (τ4 0) b4x7 w4 := f4.ro 4 e7 rfl
 clear f4
 obtain ⟨hap, hez, hel⟩ := apF_ap (n := (s.size : Int)) (by omega) xs
 obtain ⟨f1, f2, f3, f4⟩ := facts6 hap (List.Perm.refl _) (by omega) (by omega) (by omega)
 have hrp := rotE_perm (apF (s.size : Int) xs) b
 have hrz := sizes_perm hrp
 have hrl := hrp.length_eq
 obtain ⟨g1, g2, g3, g4⟩ := facts6 hap hrp (by omega) (by omega) (by omega)
 obtain ⟨h1_, h2_, h3_, h4_⟩ := grown_facts hap (by omega) (by omega) (by omega)
 show Code.wp _ _ _ a4 w4
 refine wp_seq ?_
 refine region_St (bf := [0, 0, 0, 6, 15, 31, 63, 63, 127, 511]) (sp := [det _ 23 _, det _ 24 _, det _ 25 _, own _ _ _ 1 26 _, det _ 27 _, det _ 22 _, det _ 28 _, det _ 29 _, det _ 8 _, det _ 9 _]) [io r0] mixed st4 (by kernel_rfl) ⟨r0, trivial⟩
  ⟨Ob.d fun c => r_move rfl (c.p e0),
  Ob.d fun c => r_move rfl (c.p e7),
  Ob.d fun c => r_move rfl (c.p e2),
  Ob.callOwn rfl rfl rfl (fun _ a_ _ _ c => ⟨_, _, (e_call2 rfl rfl Try.call25 (c.n 1 rfl) (c.n 2 rfl)), turned_c b4x7 (apF (s.size : Int) xs) b _ (c.io 0 rfl).1.sl (by first | omega | (rw [sizes_one]; omega) | (simp only [List.length_cons, List.length_nil]; omega))⟩),
  Ob.c fun c => ⟨_, _, (e_call2 rfl rfl Try.call15 (c.n 0 rfl) (eval_tmp _ 26)), applyE_c s _ (rotE (apF (s.size : Int) xs) b) _ (c.ro 3 rfl).1.sl (by first | omega | (rw [sizes_one]; omega) | (simp only [List.length_cons, List.length_nil]; omega)) (by first | omega | (rw [sizes_one]; omega) | (simp only [List.length_cons, List.length_nil]; omega)) (by first | omega | (rw [sizes_one]; omega) | (simp only [List.length_cons, List.length_nil]; omega))⟩,
  Ob.d fun c => r_move rfl (c.n 4 rfl),
  Ob.d fun c => r_extract rfl (c.n 5 rfl) rfl,
  Ob.d fun c => r_extract rfl (c.n 5 rfl) rfl,
  Ob.d fun c => r_assign rfl (c.n 6 rfl),
  Ob.d fun c => r_assign rfl (c.n 7 rfl), trivial⟩ ?_
 intro a5 w5 τ5 st5 f5
 obtain ⟨b5x26, e26⟩ : ∃ b, get a5 26 = b := ⟨_, rfl⟩
 obtain ⟨e0, e6, e7, -⟩ := f5.ks [(0, _), (6, _), (7, _)] ⟨e0, e6, e7, trivial⟩
 have e8 : get a5 8 = (.string (applyF s (rotE (apF (s.size : Int) xs) b))) := f5.v 8 rfl
 have e9 : get a5 9 = (.int .i64 (mayEd (s.size : Int) (rotE (apF (s.size : Int) xs) b))) := f5.v 9 rfl
 replace r0 := f5.io 0 rfl
 clear f5
 show Code.wp _ _ _ a5 w5
 refine wp_seq ?_
 refine region_St (bf := [0, 1]) (sp := [det _ 30 _, det _ 10 _]) [io r0] mixed st5 (by kernel_rfl) ⟨r0, trivial⟩
  ⟨Ob.d fun c => r_move rfl (c.p e0),
  Ob.d fun c => r_assign rfl (c.n 0 rfl), trivial⟩ ?_
 intro a6 w6 τ6 st6 f6
 obtain ⟨e0, e6, e7, e8, e9, -⟩ := f6.ks [(0, _), (6, _), (7, _), (8, _), (9, _)] ⟨e0, e6, e7, e8, e9, trivial⟩
 have e10 : get a6 10 = (.string (s)) := f6.v 1 rfl
 replace r0 := f6.io 0 rfl
 clear f6
 show Code.wp _ _ _ a6 w6
 refine wp_seq ?_
 refine wp_seq ?_
 refine region_St (bf := [0, 1, 3, 7]) (sp := [det _ 31 _, det _ 32 _, det _ 33 _, det _ 11 _]) [io r0] mixed st6 (by kernel_rfl) ⟨r0, trivial⟩
  ⟨Ob.d fun c => r_move rfl (c.p e7),
  Ob.d fun c => r_len rfl Try.underlying22 (c.n 0 rfl) r0.isSl,
  Ob.d fun c => r_sub rfl (c.n 1 rfl) rfl (by first | omega | (rw [sizes_one]; omega) | (simp only [List.length_cons, List.length_nil]; omega)),
  Ob.d fun c => r_assign rfl (c.n 2 rfl), trivial⟩ ?_
 intro a7 w7 τ7 st7 f7
 obtain ⟨e0, e6, e7, e8, e9, e10, -⟩ := f7.ks [(0, _), (6, _), (7, _), (8, _), (9, _), (10, _)] ⟨e0, e6, e7, e8, e9, e10, trivial⟩
 have e11 : get a7 11 = (.int .i64 (((apF (s.size : Int) xs).length : Int) - 1)) := f7.v 3 rfl
 replace r0 := f7.io 0 rfl
 clear f7
 show Code.wp _ _ _ a7 w7
 refine wp_block ?_
 refine wp_loop (fun a_ w_ => ∃ (m : Nat) (t : ByteArray) (τ : Nat → Foot), (m ≤ (apF (s.size : Int) xs).length) ∧
      (bs t = appL (bs s) 0 ((apF (s.size : Int) xs).drop m)) ∧
      St (Nw w) w 70 a_ w_ τ ∧
      get a_ 10 = (.string (t)) ∧
      get a_ 11 = (.int .i64 ((m : Int) - 1)) ∧
      get a_ 0 = (.string (s)) ∧
      get a_ 7 = b4x7 ∧
      get a_ 8 = (.string (applyF s (rotE (apF (s.size : Int) xs) b))) ∧
      get a_ 9 = (.int .i64 (mayEd (s.size : Int) (rotE (apF (s.size : Int) xs) b))) ∧
      ownR EditE 45 (apF (s.size : Int) xs) (τ 0) b4x7 w_) (fun a_ _ => (intOf (get a_ 11) + 1).toNat) ?_ ?_
 · refine ⟨(apF (s.size : Int) xs).length, s, τ7, ?_, ?_, st7, e10, (e11.trans (int_eq (by omega))), e0, e7, e8, e9, r0⟩
   · omega
   · rw [List.drop_of_length_le (Nat.le_refl _)]; simp [appL]
 intro a8 w8 hI
 obtain ⟨m, t, τ8, q0, q1, st8, e10, e11, e0, e7, e8, e9, r0⟩ := hI
 have hst := fun h_ : 0 < m => single_step hap (by omega) (by omega) h_ q0 q1
 have hts : t.size ≤ 400 := by
   have h_ := tx_small (ap_drop (k := m) hap)
   rw [← q1, tx_bs] at h_
   have h2_ := sizes_append ((apF (s.size : Int) xs).take m) ((apF (s.size : Int) xs).drop m)
   rw [List.take_append_drop] at h2_
   have h3_ := sizes_nonneg ((apF (s.size : Int) xs).take m)
   omega
 have hsz : 0 < m → ((nth (apF (s.size : Int) xs) ((m : Int) - 1)).2.2.size : Int) ≤ 200 := fun h_ => by
   have h2_ := sizes_mem (nth_memI (xs := (apF (s.size : Int) xs)) (i := (m : Int) - 1) (by omega) (by omega))
   omega
 have m11 := e11
 refine wp_seq ?_
 refine wp_seq ?_
 refine region_St (bf := [0, 1]) (sp := [det _ 34 _, det _ 35 _]) [io r0] mixed st8 (by kernel_rfl) ⟨r0, trivial⟩
  ⟨Ob.d fun c => r_move rfl (c.p e11),
  Ob.d fun c => r_geq rfl (c.n 0 rfl) rfl, trivial⟩ ?_
 intro a9 w9 τ9 st9 f9
 obtain ⟨e0, e7, e8, e9, e10, e11, -⟩ := f9.ks [(0, _), (7, _), (8, _), (9, _), (10, _), (11, _)] ⟨e0, e7, e8, e9, e10, e11, trivial⟩
 have e35 : get a9 35 = (.bool (decide (0 ≤ (m : Int) - 1))) := f9.v 1 rfl
 replace r0 := f9.io 0 rfl
 clear f9
 show Code.wp _ _ _ a9 w9
 refine wp_cond_split (t := decide (0 ≤ (m : Int) - 1)) e35 (fun hc2 => ?_) (fun hc2 => ?_)
 · try simp only [decide_eq_true_eq] at hc2
   refine wp_skip ?_
   show Code.wp _ _ _ a9 w9
   refine wp_seq ?_
   refine wp_block ?_
   refine wp_seq ?_
   refine region_St (bf := [0, 0, 0, 6, 14, 30, 63, 127, 255, 255, 511, 2047]) (sp := [det _ 39 _, det _ 40 _, det _ 41 _, det _ 42 _, det _ 43 _, own EditE 45 _ 1 44 ([(nth (apF (s.size : Int) xs) ((m : Int) - 1))]), det _ 45 _, det _ 38 _, det _ 46 _, det _ 47 _, det _ 12 _, det _ 13 _]) [io r0] mixed st9 (by kernel_rfl) ⟨r0, trivial⟩
    ⟨Ob.d fun c => r_move rfl (c.p e10),
    Ob.d fun c => r_move rfl (c.p e7),
    Ob.d fun c => r_move rfl (c.p e11),
    Ob.d fun c => r_indexAddr rfl Try.underlying22 Try.sizeOf45 (c.n 1 rfl) r0.isSl (c.n 2 rfl) (by first | omega | (rw [sizes_one]; omega) | (simp only [List.length_cons, List.length_nil]; omega)) (by first | omega | (rw [sizes_one]; omega) | (simp only [List.length_cons, List.length_nil]; omega)),
    Ob.d fun c => r_loadN (vs := [(.int .i64 ((nth (apF (s.size : Int) xs) ((m : Int) - 1)).1)), (.int .i64 ((nth (apF (s.size : Int) xs) ((m : Int) - 1)).2.1)), (.string ((nth (apF (s.size : Int) xs) ((m : Int) - 1)).2.2))]) rfl Try.isAgg45 Try.sizeOf45 (c.n 3 rfl) rfl (fun _ _ hj => ((c.io 0 rfl).1.sl).elem (nth_some (i := (m : Int) - 1) (by first | omega | (rw [sizes_one]; omega) | (simp only [List.length_cons, List.length_nil]; omega)) (by first | omega | (rw [sizes_one]; omega) | (simp only [List.length_cons, List.length_nil]; omega))) hj),
    Ob.buildSlice (cells := #[(.int .i64 ((nth (apF (s.size : Int) xs) ((m : Int) - 1)).1)), (.int .i64 ((nth (apF (s.size : Int) xs) ((m : Int) - 1)).2.1)), (.string ((nth (apF (s.size : Int) xs) ((m : Int) - 1)).2.2))]) rfl rfl rfl rfl Try.underlying22 Try.sizeOf45 Try.zeroValue45 rfl (by decide) (by decide) (fun _ _ _ _ c => fill1 (c.n 4 rfl) (by kernel_rfl)) rfl,
    Ob.c fun c => ⟨_, _, (e_call2 rfl rfl Try.call15 (c.n 0 rfl) (eval_tmp _ 44)), applyE_c t _ ([(nth (apF (s.size : Int) xs) ((m : Int) - 1))]) _ (c.ro 5 rfl).1.sl (by first | omega | (rw [sizes_one]; omega) | (simp only [List.length_cons, List.length_nil]; omega)) (by first | omega | (rw [sizes_one]; omega) | (simp only [List.length_cons, List.length_nil]; omega)) (by first | omega | (rw [sizes_one]; omega) | (simp only [List.length_cons, List.length_nil]; omega))⟩,
    Ob.d fun c => r_move rfl (c.n 6 rfl),
    Ob.d fun c => r_extract rfl (c.n 7 rfl) rfl,
    Ob.d fun c => r_extract rfl (c.n 7 rfl) rfl,
    Ob.d fun c => r_assign rfl (c.n 8 rfl),
    Ob.d fun c => r_assign rfl (c.n 9 rfl), trivial⟩ ?_
   intro a10 w10 τ10 st10 f10
   obtain ⟨b10x44, e44⟩ : ∃ b, get a10 44 = b := ⟨_, rfl⟩
   obtain ⟨e0, e7, e8, e9, e10, e11, e35, -⟩ := f10.ks [(0, _), (7, _), (8, _), (9, _), (10, _), (11, _), (35, _)] ⟨e0, e7, e8, e9, e10, e11, e35, trivial⟩
   have e12 : get a10 12 = (.string (applyF t ([(nth (apF (s.size : Int) xs) ((m : Int) - 1))]))) := f10.v 10 rfl
   have e13 : get a10 13 = (.int .i64 (mayEd (t.size : Int) ([(nth (apF (s.size : Int) xs) ((m : Int) - 1))]))) := f10.v 11 rfl
   replace r0 := f10.io 0 rfl
   have r1 : ownR EditE 45 ([(nth (apF (s.size : Int) xs) ((m : Int) - 1))]) (τ10 1) b10x44 w10 := f10.ro 5 e44 rfl
   clear f10
   show Code.wp _ _ _ a10 w10
   refine wp_seq ?_
   refine wp_seq ?_
   refine region_St (bf := [0, 1]) (sp := [det _ 48 _, det _ 49 (.bool (false))]) [io r0, io r1] mixed st10 (by kernel_rfl) ⟨r0, r1, trivial⟩
    ⟨Ob.d fun c => r_move rfl (c.p e13),
    Ob.d (v := (.bool (false))) fun c => Runs.isB (b := !decide (mayEd (t.size : Int) ([(nth (apF (s.size : Int) xs) ((m : Int) - 1))]) = 0)) (r_neq rfl (c.n 0 rfl) rfl) (by rw [(hst (by omega)).1]; rfl), trivial⟩ ?_
   intro a11 w11 τ11 st11 f11
   obtain ⟨e0, e7, e8, e9, e10, e11, e12, e13, e35, -⟩ := f11.ks [(0, _), (7, _), (8, _), (9, _), (10, _), (11, _), (12, _), (13, _), (35, _)] ⟨e0, e7, e8, e9, e10, e11, e12, e13, e35, trivial⟩
   have e49 : get a11 49 = (.bool (false)) := f11.v 1 rfl
   replace r0 := f11.io 0 rfl
   replace r1 := f11.io 1 rfl
   clear f11
   show Code.wp _ _ _ a11 w11
   refine wp_cond_false e49 ?_
   refine wp_skip ?_
   show Code.wp _ _ _ a11 w11
   refine region_St (bf := [0, 1]) (sp := [det _ 50 _, det _ 10 _]) [io r0, io r1] mixed st11 (by kernel_rfl) ⟨r0, r1, trivial⟩
    ⟨Ob.d fun c => r_move rfl (c.p e12),
    Ob.d fun c => r_assign rfl (c.n 0 rfl), trivial⟩ ?_
   intro a12 w12 τ12 st12 f12
   obtain ⟨e0, e7, e8, e9, e11, e12, e13, e35, e49, -⟩ := f12.ks [(0, _), (7, _), (8, _), (9, _), (11, _), (12, _), (13, _), (35, _), (49, _)] ⟨e0, e7, e8, e9, e11, e12, e13, e35, e49, trivial⟩
   have e10 : get a12 10 = (.string (applyF t ([(nth (apF (s.size : Int) xs) ((m : Int) - 1))]))) := f12.v 1 rfl
   replace r0 := f12.io 0 rfl
   replace r1 := f12.io 1 rfl
   clear f12
   show _
   show Code.wp _ _ _ a12 w12
   refine region_St (bf := [0, 1, 3]) (sp := [det _ 36 _, det _ 37 _, det _ 11 _]) [io r0, io r1] mixed st12 (by kernel_rfl) ⟨r0, r1, trivial⟩
    ⟨Ob.d fun c => r_move rfl (c.p e11),
    Ob.d fun c => r_sub rfl (c.n 0 rfl) rfl (by first | omega | (rw [sizes_one]; omega) | (simp only [List.length_cons, List.length_nil]; omega)),
    Ob.d fun c => r_assign rfl (c.n 1 rfl), trivial⟩ ?_
   intro a13 w13 τ13 st13 f13
   obtain ⟨e0, e7, e8, e9, e10, e12, e13, e35, e49, -⟩ := f13.ks [(0, _), (7, _), (8, _), (9, _), (10, _), (12, _), (13, _), (35, _), (49, _)] ⟨e0, e7, e8, e9, e10, e12, e13, e35, e49, trivial⟩
   have e11 : get a13 11 = (.int .i64 ((m : Int) - 1 - 1)) := f13.v 2 rfl
   replace r0 := f13.io 0 rfl
   replace r1 := f13.io 1 rfl
   clear f13
   refine ⟨⟨m - 1, applyF t ([(nth (apF (s.size : Int) xs) ((m : Int) - 1))]), τ13, ?_, ?_, st13, e10, (e11.trans (int_eq (by omega))), e0, e7, e8, e9, r0⟩, ?_⟩
   · omega
   · exact (hst (by omega)).2
   · simp only [m11, e11, intOf]; omega
 try simp only [decide_eq_false_iff_not, Int.not_le] at hc2
 refine wp_exit ?_
 repeat (with_reducible refine then_exit ?_)
 refine exit_here ?_
 show Code.wp _ _ _ a9 w9
 refine wp_seq ?_
 refine region_St (bf := [0, 1, 3, 7, 7, 31, 63, 127, 255, 511, 255, 2047, 255, 4351, 16383, 32767, 65535, 131071, 262143, 524287]) (sp := [det _ 51 _, det _ 52 _, det _ 53 _, gdet _ 54 _ _, gdet _ 55 _ _, gdet _ 56 _ _, det _ 57 _, det _ 58 _, gdet _ 59 _ _, gdet _ 60 _ _, gdet _ 61 _ _, gdet _ 62 _ _, gdet _ 63 _ _, gdet _ 64 _ _, gdet _ 65 _ _, det _ 66 _, det _ 67 _, gdet _ 68 _ _, det _ 69 _, det _ 6 _]) [io r0] mixed st9 (by kernel_rfl) ⟨r0, trivial⟩
  ⟨Ob.d fun c => r_move rfl (c.p e9),
  Ob.d fun c => r_eql rfl (c.n 0 rfl) rfl,
  Ob.d fun c => r_move rfl (c.n 1 rfl),
  Ob.g 2 true rfl fun c hpc => r_move rfl (c.p e8),
  Ob.g 2 true rfl fun c hpc => r_move rfl (c.p e10),
  Ob.g 2 true rfl fun c hpc => r_seql rfl (c.m 3 rfl hpc) (c.m 4 rfl hpc),
  Ob.d fun c => r_and rfl (c.n 2 rfl) (fun h => c.m 5 rfl h),
  Ob.d fun c => r_move rfl (c.n 6 rfl),
  Ob.g 7 true rfl fun c hpc => r_move rfl (c.p e0),
  Ob.g 7 true rfl fun c hpc => r_lenS rfl Try.underlying9 (c.m 8 rfl hpc),
  Ob.g 7 true rfl fun c hpc => r_move rfl (c.p e7),
  Ob.gc 7 true rfl fun c hpc => ⟨_, _, (e_call2 rfl rfl Try.call26 (c.m 9 rfl hpc) (c.m 10 rfl hpc)), grown_c (s.size : Int) b4x7 (apF (s.size : Int) xs) _ (c.io 0 rfl).1.sl (by have hq0 := hpc; (try simp only [Bool.and_eq_true, decide_eq_true_eq] at hq0); first | omega | (rw [sizes_one]; omega) | (simp only [List.length_cons, List.length_nil]; omega))⟩,
  Ob.g 7 true rfl fun c hpc => r_move rfl (c.p e8),
  Ob.g 7 true rfl fun c hpc => r_lenS rfl Try.underlying9 (c.m 12 rfl hpc),
  Ob.g 7 true rfl fun c hpc => r_eql rfl (c.m 11 rfl hpc) (c.m 13 rfl hpc),
  Ob.d fun c => r_and rfl (c.n 7 rfl) (fun h => c.m 14 rfl h),
  Ob.d fun c => r_move rfl (c.n 15 rfl),
  Ob.gc 16 true rfl fun c hpc => ⟨_, _, (e_call0 rfl rfl Try.call14), awake_c _⟩,
  Ob.d fun c => r_and rfl (c.n 16 rfl) (fun h => c.m 17 rfl h),
  Ob.d fun c => r_assign rfl (c.n 18 rfl), trivial⟩ ?_
 intro a14 w14 τ14 st14 f14
 have e6 : get a14 6 = (.bool ((((decide (mayEd (s.size : Int) (rotE (apF (s.size : Int) xs) b) = 0)) && (eqT (applyF s (rotE (apF (s.size : Int) xs) b)) t)) && (decide (grownW (s.size : Int) (apF (s.size : Int) xs) = ((applyF s (rotE (apF (s.size : Int) xs) b)).size : Int)))) && true)) := f14.v 19 rfl
 clear f14
 show Code.wp _ _ _ a14 w14
 refine wp_ret ?_
 repeat (first | with_reducible refine then_ret ?_ | with_reducible refine block_ret ?_)
 refine ret1 (fn := Try.f5) rfl st14.defers e6 ?_
 exact ⟨congrArg _ (congrArg _ (show ((((decide (mayEd (s.size : Int) (rotE (apF (s.size : Int) xs) b) = 0)) && (eqT (applyF s (rotE (apF (s.size : Int) xs) b)) t)) && (decide (grownW (s.size : Int) (apF (s.size : Int) xs) = ((applyF s (rotE (apF (s.size : Int) xs) b)).size : Int)))) && true) = true from by have ht_ : t = (tx (appL (bs s) 0 (apF (s.size : Int) xs))) := (by rw [← tx_bs t, q1, show m = 0 by omega, List.drop_zero]); simp [g1, g2, ht_, eqT_self, h1_, h2_])), st14.ext0⟩
end B
end Go.Proofs.Ytfkjmkngiiokmaa
