/-
  Walks, printed by a program (gen.py): ChB.
-/
import Derived.Test.YtfkjmkngiiokmaaChA
set_option linter.unusedSimpArgs false
set_option linter.unusedVariables false
namespace Go.Proofs.Ytfkjmkngiiokmaa
namespace B
open Go.RowKit
open Srt
set_option maxRecDepth 100000 in
set_option maxHeartbeats 4000000 in
theorem applyE_c (s : ByteArray) (v : Value) (xs : List (Int × Int × ByteArray)) (w : World) (hS : SlT EditE w v xs) (hs : s.size ≤ 1000000) (hz : sizes xs ≤ 1000000) (hbig : xs.length ≤ 1000000) : Calls Try.prog 15 #[(.string (s)), v] w (fun e w' => e = .returned (.tuple #[.string (applyF s xs), .int .i64 (mayEd (s.size : Int) xs)]) ∧ Ext none' w w') := by
 refine enter (n := 46) Try.func15 rfl rfl (Nat.le_of_ble_eq_true rfl) ?_
 intro a0 τ0 ha st0
 have e0 : get a0 0 = (.string (s)) := ha 0 _ rfl
 have e1 : get a0 1 = v := ha 1 _ rfl
 clear ha
 have hle := hS.le
 have hil := isort_length (lt := ltE) xs
 refine wp_seq ?_
 refine region_St (bf := [0, 1]) (sp := [det _ 4 _, det _ 5 _]) [] mixed st0 (by kernel_rfl) trivial
  ⟨Ob.d fun c => r_assign rfl rfl,
  Ob.d fun c => r_assign rfl rfl, trivial⟩ ?_
 intro a1 w1 τ1 st1 f1
 obtain ⟨e0, e1, -⟩ := f1.ks [(0, _), (1, _)] ⟨e0, e1, trivial⟩
 have e4 : get a1 4 = (.string ((⟨#[]⟩ : ByteArray))) := f1.v 0 rfl
 have e5 : get a1 5 = (.int .i64 (0)) := f1.v 1 rfl
 clear f1
 show Code.wp _ _ _ a1 w1
 refine wp_seq ?_
 refine wp_seq ?_
 refine region_St (bf := [0, 1, 0, 7, 15]) (sp := [det _ 11 _, det _ 12 _, det _ 13 _, det _ 14 _, det _ 6 _]) [] mixed st1 (by kernel_rfl) trivial
  ⟨Ob.d fun c => r_move rfl (c.p e0),
  Ob.d fun c => r_lenS rfl Try.underlying9 (c.n 0 rfl),
  Ob.d fun c => r_move rfl (c.p e1),
  Ob.c fun c => ⟨_, _, (e_call2 rfl rfl Try.call19 (c.n 1 rfl) (c.n 2 rfl)), mayE_c (s.size : Int) v xs _ (hS.at (st1.ext.trans c.J.ext)) (by first | omega | (simp only [List.length_append, Array.length_toList, ByteArray.size_data, ByteArray.size_extract, List.length_set, ByteArray.size_append]; omega))⟩,
  Ob.d fun c => r_assign rfl (c.n 3 rfl), trivial⟩ ?_
 intro a2 w2 τ2 st2 f2
 obtain ⟨e0, e1, e4, e5, -⟩ := f2.ks [(0, _), (1, _), (4, _), (5, _)] ⟨e0, e1, e4, e5, trivial⟩
 have e6 : get a2 6 = (.int .i64 (mayEd (s.size : Int) xs)) := f2.v 4 rfl
 clear f2
 show Code.wp _ _ _ a2 w2
 refine wp_seq ?_
 refine region_St (bf := [0, 1]) (sp := [det _ 15 _, det _ 16 _]) [] mixed st2 (by kernel_rfl) trivial
  ⟨Ob.d fun c => r_move rfl (c.p e6),
  Ob.d fun c => r_neq rfl (c.n 0 rfl) rfl, trivial⟩ ?_
 intro a3 w3 τ3 st3 f3
 obtain ⟨e0, e1, e4, e5, e6, -⟩ := f3.ks [(0, _), (1, _), (4, _), (5, _), (6, _)] ⟨e0, e1, e4, e5, e6, trivial⟩
 have e16 : get a3 16 = (.bool (!decide (mayEd (s.size : Int) xs = 0))) := f3.v 1 rfl
 clear f3
 show Code.wp _ _ _ a3 w3
 refine wp_cond_split (t := !decide (mayEd (s.size : Int) xs = 0)) e16 (fun hc1 => ?_) (fun hc1 => ?_)
 · try simp only [Bool.not_eq_true', Bool.not_eq_false', decide_eq_true_eq, decide_eq_false_iff_not] at hc1
   refine wp_seq ?_
   refine region_St (bf := [0, 0, 3]) (sp := [det _ 17 _, det _ 4 _, det _ 5 _]) [] mixed st3 (by kernel_rfl) trivial
    ⟨Ob.d fun c => r_move rfl (c.p e6),
    Ob.d fun c => r_assign rfl rfl,
    Ob.d fun c => r_assign rfl (c.n 0 rfl), trivial⟩ ?_
   intro a4 w4 τ4 st4 f4
   obtain ⟨e0, e1, -⟩ := f4.ks [(0, _), (1, _)] ⟨e0, e1, trivial⟩
   have e4 : get a4 4 = (.string ((⟨#[]⟩ : ByteArray))) := f4.v 1 rfl
   have e5 : get a4 5 = (.int .i64 (mayEd (s.size : Int) xs)) := f4.v 2 rfl
   clear f4
   show Code.wp _ _ _ a4 w4
   refine wp_ret ?_
   repeat (first | with_reducible refine then_ret ?_ | with_reducible refine block_ret ?_)
   refine ret2 (fn := Try.f15) rfl st4.defers e4 e5 ?_
   rw [apply_none (s := s) (es := xs) (by assumption)]
   exact ⟨rfl, st4.ext0⟩
 try simp only [Bool.not_eq_true', Bool.not_eq_false', decide_eq_true_eq, decide_eq_false_iff_not] at hc1
 refine wp_skip ?_
 show Code.wp _ _ _ a3 w3
 refine wp_seq ?_
 refine region_St (bf := [0]) (sp := [det _ 7 _]) [] mixed st3 (by kernel_rfl) trivial
  ⟨Ob.d fun c => r_assign rfl rfl, trivial⟩ ?_
 intro a5 w5 τ5 st5 f5
 obtain ⟨e0, e1, e4, e5, -⟩ := f5.ks [(0, _), (1, _), (4, _), (5, _)] ⟨e0, e1, e4, e5, trivial⟩
 have e7 : get a5 7 = (.slice none 0 0) := f5.v 0 rfl
 clear f5
 have hap := may_ap (n := (s.size : Int)) (es := xs) (by assumption) (by omega)
 have hal := app_small hap hs hz
 show Code.wp _ _ _ a5 w5
 refine wp_seq ?_
 refine region_St (bf := [0]) (sp := [det _ 8 _]) [] mixed st5 (by kernel_rfl) trivial
  ⟨Ob.d fun c => r_assign rfl rfl, trivial⟩ ?_
 intro a6 w6 τ6 st6 f6
 obtain ⟨e0, e1, e4, e5, e7, -⟩ := f6.ks [(0, _), (1, _), (4, _), (5, _), (7, _)] ⟨e0, e1, e4, e5, e7, trivial⟩
 have e8 : get a6 8 = (.int .i64 (0)) := f6.v 0 rfl
 clear f6
 show Code.wp _ _ _ a6 w6
 refine wp_seq ?_
 refine wp_seq ?_
 refine region_St (bf := [0, 1, 3, 0]) (sp := [det _ 18 _, own _ _ _ 1 19 _, det _ 20 _, det _ 21 _]) [] mixed st6 (by kernel_rfl) trivial
  ⟨Ob.d fun c => r_move rfl (c.p e1),
  Ob.callOwn rfl rfl rfl (fun _ a_ _ _ c => ⟨_, _, (e_call1 rfl rfl Try.call22 (c.n 0 rfl)), sortE_c v xs _ (hS.at (st6.ext.trans c.J.ext)) (by first | omega | (simp only [List.length_append, Array.length_toList, ByteArray.size_data, ByteArray.size_extract, List.length_set, ByteArray.size_append]; omega))⟩),
  Ob.d fun c => r_len rfl Try.underlying22 rfl (c.ro 1 rfl).isSl,
  Ob.d fun c => r_move rfl rfl, trivial⟩ ?_
 intro a7 w7 τ7 st7 f7
 obtain ⟨b7x19, e19⟩ : ∃ b, get a7 19 = b := ⟨_, rfl⟩
 obtain ⟨e0, e4, e5, e7, e8, -⟩ := f7.ks [(0, _), (4, _), (5, _), (7, _), (8, _)] ⟨e0, e4, e5, e7, e8, trivial⟩
 have e20 : get a7 20 = (.int .i64 (((isort ltE xs).length : Int))) := f7.v 2 rfl
 have e21 : get a7 21 = (.int .i64 (0)) := f7.v 3 rfl
 have r1 : ownR EditE 45 (isort ltE xs) (τ7 1) b7x19 w7 := f7.ro 1 e19 rfl
 clear f7
 show Code.wp _ _ _ a7 w7
 refine wp_block ?_
 refine wp_loop (fun a_ w_ => ∃ (k a : Nat) (u : Value) (ys : List UInt8) (τ : Nat → Foot), (k ≤ (isort ltE xs).length) ∧
      (Ap (a : Int) (s.size : Int) ((isort ltE xs).drop k)) ∧
      (ys ++ appL (bs s) a ((isort ltE xs).drop k) = appL (bs s) 0 (isort ltE xs)) ∧
      St (Nw w) w 46 a_ w_ τ ∧
      get a_ 7 = u ∧
      get a_ 8 = (.int .i64 ((a : Int))) ∧
      get a_ 21 = (.int .i64 ((k : Int))) ∧
      get a_ 0 = (.string (s)) ∧
      get a_ 4 = (.string ((⟨#[]⟩ : ByteArray))) ∧
      get a_ 5 = (.int .i64 (0)) ∧
      get a_ 19 = b7x19 ∧
      get a_ 20 = (.int .i64 (((isort ltE xs).length : Int))) ∧
      ownR ByteE 5 (ys) (τ 0) u w_ ∧
      ownR EditE 45 (isort ltE xs) (τ 1) b7x19 w_) (fun a_ _ => (isort ltE xs).length - (intOf (get a_ 21)).toNat) ?_ ?_
 · refine ⟨0, 0, (.slice none 0 0), [], τ7, ?_, ?_, ?_, st7, e7, (e8.trans (int_eq (by omega))), (e21.trans (int_eq (by omega))), e0, e4, e5, e19, e20, ?_, r1⟩
   · omega
   · exact hap
   · rfl
   · exact ownR.nil _ _ _ _
 intro a8 w8 hI
 obtain ⟨k, a, u, ys, τ8, q0, q1, q2, st8, e7, e8, e21, e0, e4, e5, e19, e20, r0, r1⟩ := hI
 have hk1 := ap_at3 q1
 have hyl : ys.length ≤ 2000000 := by have h_ := congrArg List.length q2; rw [List.length_append] at h_; omega
 have hsz := size_at (k := k) (isort_perm (lt := ltE) xs)
 have hae := q1.le
 have m21 := e21
 refine wp_seq ?_
 refine region_St (bf := [0]) (sp := [det _ 22 _]) [io r0, io r1] mixed st8 (by kernel_rfl) ⟨r0, r1, trivial⟩
  ⟨Ob.d fun c => r_lss rfl (c.p e21) (c.p e20), trivial⟩ ?_
 intro a9 w9 τ9 st9 f9
 obtain ⟨e0, e4, e5, e7, e8, e19, e20, e21, -⟩ := f9.ks [(0, _), (4, _), (5, _), (7, _), (8, _), (19, _), (20, _), (21, _)] ⟨e0, e4, e5, e7, e8, e19, e20, e21, trivial⟩
 have e22 : get a9 22 = (.bool (decide ((k : Int) < ((isort ltE xs).length : Int)))) := f9.v 0 rfl
 replace r0 := f9.io 0 rfl
 replace r1 := f9.io 1 rfl
 clear f9
 show Code.wp _ _ _ a9 w9
 refine wp_seq ?_
 refine wp_cond_split (t := decide ((k : Int) < ((isort ltE xs).length : Int))) e22 (fun hc2 => ?_) (fun hc2 => ?_)
 · try simp only [decide_eq_true_eq] at hc2
   refine wp_skip ?_
   show Code.wp _ _ _ a9 w9
   refine wp_seq ?_
   refine wp_block ?_
   refine wp_seq ?_
   refine region_St (bf := [0, 1, 0, 7]) (sp := [det _ 23 _, det _ 24 _, box _ _ 2 10 [(.int .i64 (0)), (.int .i64 (0)), (.string ((⟨#[]⟩ : ByteArray)))], box _ _ 2 10 [(.int .i64 ((nth (isort ltE xs) ((k : Int))).1)), (.int .i64 ((nth (isort ltE xs) ((k : Int))).2.1)), (.string ((nth (isort ltE xs) ((k : Int))).2.2))]]) [io r0, io r1] mixed st9 (by kernel_rfl) ⟨r0, r1, trivial⟩
    ⟨Ob.d fun c => r_indexAddr rfl Try.underlying22 Try.sizeOf45 (c.p e19) r1.isSl (c.p e21) (by first | omega | (simp only [List.length_append, Array.length_toList, ByteArray.size_data, ByteArray.size_extract, List.length_set, ByteArray.size_append]; omega)) (by first | omega | (simp only [List.length_append, Array.length_toList, ByteArray.size_data, ByteArray.size_extract, List.length_set, ByteArray.size_append]; omega)),
    Ob.d fun c => r_loadN (vs := [(.int .i64 ((nth (isort ltE xs) ((k : Int))).1)), (.int .i64 ((nth (isort ltE xs) ((k : Int))).2.1)), (.string ((nth (isort ltE xs) ((k : Int))).2.2))]) rfl Try.isAgg45 Try.sizeOf45 (c.n 0 rfl) rfl (fun _ _ hj => ((c.io 1 rfl).1.sl).elem (nth_some (i := (k : Int)) (by first | omega | (simp only [List.length_append, Array.length_toList, ByteArray.size_data, ByteArray.size_extract, List.length_set, ByteArray.size_append]; omega)) (by first | omega | (simp only [List.length_append, Array.length_toList, ByteArray.size_data, ByteArray.size_extract, List.length_set, ByteArray.size_append]; omega))) hj),
    Ob.alloc rfl rfl rfl rfl Try.zeroValue45 rfl,
    Ob.storeBox (off := 0) (v := (.agg #[(.int .i64 ((nth (isort ltE xs) ((k : Int))).1)), (.int .i64 ((nth (isort ltE xs) ((k : Int))).2.1)), (.string ((nth (isort ltE xs) ((k : Int))).2.2))])) rfl rfl rfl rfl Try.sizeOf45 (Nat.le_of_ble_eq_true rfl) (by simp [Value.cells, Value.oneCell']) rfl (fun _ _ _ _ c => ⟨c.rb 2 rfl, (c.rb 2 rfl).ptr, (c.n 1 rfl)⟩), trivial⟩ ?_
   intro a10 w10 τ10 st10 f10
   obtain ⟨b10x10, e10⟩ : ∃ b, get a10 10 = b := ⟨_, rfl⟩
   obtain ⟨e0, e4, e5, e7, e8, e19, e20, e21, e22, -⟩ := f10.ks [(0, _), (4, _), (5, _), (7, _), (8, _), (19, _), (20, _), (21, _), (22, _)] ⟨e0, e4, e5, e7, e8, e19, e20, e21, e22, trivial⟩
   replace r0 := f10.io 0 rfl
   replace r1 := f10.io 1 rfl
   have r2 : boxR 45 [(.int .i64 ((nth (isort ltE xs) ((k : Int))).1)), (.int .i64 ((nth (isort ltE xs) ((k : Int))).2.1)), (.string ((nth (isort ltE xs) ((k : Int))).2.2))] (τ10 2) b10x10 w10 := f10.rb 3 e10 rfl
   clear f10
   show Code.wp _ _ _ a10 w10
   refine wp_seq ?_
   refine region_St (bf := [0, 0, 0, 0, 8, 24, 62, 127, 0, 256, 1023, 2047]) (sp := [det _ 25 _, det _ 26 _, det _ 27 _, det _ 28 _, det _ 29 _, det _ 30 _, det _ 31 _, own _ _ _ 0 32 _, det _ 33 _, det _ 34 _, own _ _ _ 0 35 _, own _ _ _ 0 7 _]) [io r0, io r1, ib r2] mixed st10 (by kernel_rfl) ⟨r0, r1, r2, trivial⟩
    ⟨Ob.d fun c => r_move rfl (c.p e7),
    Ob.d fun c => r_move rfl (c.p e0),
    Ob.d fun c => r_move rfl (c.p e8),
    Ob.d fun c => r_fieldAddr rfl Try.underlying45 rfl rfl Try.sizeOf43 ((c.p e10).trans r2.ptr),
    Ob.d fun c => r_fieldAddr rfl Try.underlying43 rfl rfl Try.sizeOf3 (c.n 3 rfl),
    Ob.d fun c => r_load1 rfl Try.isAgg3 (c.n 4 rfl) (by rw [add_add]; exact (c.ib 2 rfl).cell (j := 0) rfl),
    Ob.d fun c => r_sub2 (s := s) (p := (a : Int)) (q := (nth (isort ltE xs) ((k : Int))).1) rfl Try.underlying9 (c.n 1 rfl) (c.n 2 rfl) (c.n 5 rfl) (by first | omega | (simp only [List.length_append, Array.length_toList, ByteArray.size_data, ByteArray.size_extract, List.length_set, ByteArray.size_append]; omega)) (by first | omega | (simp only [List.length_append, Array.length_toList, ByteArray.size_data, ByteArray.size_extract, List.length_set, ByteArray.size_append]; omega)) (by first | omega | (simp only [List.length_append, Array.length_toList, ByteArray.size_data, ByteArray.size_extract, List.length_set, ByteArray.size_append]; omega)),
    Ob.appendStr (t0 := 7) rfl rfl rfl rfl Try.underlying58 Try.underlying9 (i := Try.t5) rfl rfl rfl rfl (by first | omega | (simp only [List.length_append, Array.length_toList, ByteArray.size_data, ByteArray.size_extract, List.length_set, ByteArray.size_append]; omega)) (fun _ _ _ _ c => ⟨c.ip 0 rfl e7, c.sm (c.n 0 rfl) e7, (c.n 6 rfl)⟩),
    Ob.d fun c => r_fieldAddr rfl Try.underlying45 rfl rfl Try.sizeOf9 ((c.p e10).trans r2.ptr),
    Ob.d fun c => r_load1 rfl Try.isAgg9 (c.n 8 rfl) ((c.ib 2 rfl).cell (j := 2) rfl),
    Ob.appendStr (t0 := 32) rfl rfl rfl rfl Try.underlying58 Try.underlying9 (i := Try.t5) rfl rfl rfl rfl (by first | omega | (simp only [List.length_append, Array.length_toList, ByteArray.size_data, ByteArray.size_extract, List.length_set, ByteArray.size_append]; omega)) (fun _ _ _ _ c => ⟨c.ro 7 rfl, rfl, (c.n 9 rfl)⟩),
    Ob.moveT (t0 := 35) rfl rfl rfl rfl rfl (.inr rfl) (fun _ _ _ _ c => ⟨c.ro 10 rfl, rfl⟩), trivial⟩ ?_
   intro a11 w11 τ11 st11 f11
   obtain ⟨b11x7, e7⟩ : ∃ b, get a11 7 = b := ⟨_, rfl⟩
   obtain ⟨e0, e4, e5, e8, e10, e19, e20, e21, e22, -⟩ := f11.ks [(0, _), (4, _), (5, _), (8, _), (10, _), (19, _), (20, _), (21, _), (22, _)] ⟨e0, e4, e5, e8, e10, e19, e20, e21, e22, trivial⟩
   replace r0 : ownR ByteE 5 ((ys ++ (s.extract a ((nth (isort ltE xs) ((k : Int))).1).toNat).data.toList) ++ ((nth (isort ltE xs) ((k : Int))).2.2).data.toList) (τ11 0) b11x7 w11 := f11.ro 11 e7 rfl
   replace r1 := f11.io 1 rfl
   replace r2 := f11.ib 2 rfl
   clear f11
   show Code.wp _ _ _ a11 w11
   refine region_St (bf := [0, 1, 3, 7]) (sp := [det _ 36 _, det _ 37 _, det _ 38 _, det _ 8 _]) [io r0, io r1, ib r2] mixed st11 (by kernel_rfl) ⟨r0, r1, r2, trivial⟩
    ⟨Ob.d fun c => r_fieldAddr rfl Try.underlying45 rfl rfl Try.sizeOf43 ((c.p e10).trans r2.ptr),
    Ob.d fun c => r_fieldAddr rfl Try.underlying43 rfl rfl Try.sizeOf3 (c.n 0 rfl),
    Ob.d fun c => r_load1 rfl Try.isAgg3 (c.n 1 rfl) (by rw [add_add]; exact (c.ib 2 rfl).cell (j := 1) rfl),
    Ob.d fun c => r_assign rfl (c.n 2 rfl), trivial⟩ ?_
   intro a12 w12 τ12 st12 f12
   obtain ⟨e0, e4, e5, e7, e10, e19, e20, e21, e22, -⟩ := f12.ks [(0, _), (4, _), (5, _), (7, _), (10, _), (19, _), (20, _), (21, _), (22, _)] ⟨e0, e4, e5, e7, e10, e19, e20, e21, e22, trivial⟩
   have e8 : get a12 8 = (.int .i64 ((nth (isort ltE xs) ((k : Int))).2.1)) := f12.v 3 rfl
   replace r0 := f12.io 0 rfl
   replace r1 := f12.io 1 rfl
   replace r2 := f12.ib 2 rfl
   clear f12
   show _
   show Code.wp _ _ _ a12 w12
   refine region_St (bf := [0, 1]) (sp := [det _ 39 _, det _ 21 _]) [io r0, io r1, ib r2] mixed st12 (by kernel_rfl) ⟨r0, r1, r2, trivial⟩
    ⟨Ob.d fun c => r_add rfl (c.p e21) rfl (by first | omega | (simp only [List.length_append, Array.length_toList, ByteArray.size_data, ByteArray.size_extract, List.length_set, ByteArray.size_append]; omega)),
    Ob.d fun c => r_move rfl (c.n 0 rfl), trivial⟩ ?_
   intro a13 w13 τ13 st13 f13
   obtain ⟨e0, e4, e5, e7, e8, e10, e19, e20, e22, -⟩ := f13.ks [(0, _), (4, _), (5, _), (7, _), (8, _), (10, _), (19, _), (20, _), (22, _)] ⟨e0, e4, e5, e7, e8, e10, e19, e20, e22, trivial⟩
   have e21 : get a13 21 = (.int .i64 ((k : Int) + 1)) := f13.v 1 rfl
   replace r0 := f13.io 0 rfl
   replace r1 := f13.io 1 rfl
   replace r2 := f13.ib 2 rfl
   clear f13
   refine ⟨⟨k + 1, (nth (isort ltE xs) (k : Int)).2.1.toNat, b11x7, (ys ++ (s.extract a ((nth (isort ltE xs) ((k : Int))).1).toNat).data.toList) ++ ((nth (isort ltE xs) ((k : Int))).2.2).data.toList, τ13, ?_, ?_, ?_, st13, e7, (e8.trans (int_eq (by omega))), (e21.trans (int_eq (by omega))), e0, e4, e5, e19, e20, ?_, r1⟩, ?_⟩
   · omega
   · rw [Int.toNat_of_nonneg (by omega)]; exact (ap_at q1 (by omega)).2.2.2
   · exact app_next (by omega) q2
   · exact r0.cast (by rfl)
   · simp only [m21, e21, intOf]; omega
 try simp only [decide_eq_false_iff_not, Int.not_lt] at hc2
 refine wp_exit ?_
 repeat (with_reducible refine then_exit ?_)
 refine exit_here ?_
 show Code.wp _ _ _ a9 w9
 refine wp_seq ?_
 refine region_St (bf := [0, 0, 0, 6, 15, 31, 63, 127]) (sp := [det _ 40 _, det _ 41 _, det _ 42 _, det _ 43 _, own _ _ _ 0 44 _, det _ 45 _, det _ 4 _, det _ 5 _]) [io r0, io r1] mixed st9 (by kernel_rfl) ⟨r0, r1, trivial⟩
  ⟨Ob.d fun c => r_move rfl (c.p e7),
  Ob.d fun c => r_move rfl (c.p e0),
  Ob.d fun c => r_move rfl (c.p e8),
  Ob.d fun c => r_subLo (s := s) (p := (a : Int)) rfl Try.underlying9 (c.n 1 rfl) (c.n 2 rfl) (by first | omega | (simp only [List.length_append, Array.length_toList, ByteArray.size_data, ByteArray.size_extract, List.length_set, ByteArray.size_append]; omega)) (by first | omega | (simp only [List.length_append, Array.length_toList, ByteArray.size_data, ByteArray.size_extract, List.length_set, ByteArray.size_append]; omega)),
  Ob.appendStr (t0 := 7) rfl rfl rfl rfl Try.underlying58 Try.underlying9 (i := Try.t5) rfl rfl rfl rfl (by first | omega | (simp only [List.length_append, Array.length_toList, ByteArray.size_data, ByteArray.size_extract, List.length_set, ByteArray.size_append]; omega)) (fun _ _ _ _ c => ⟨c.ip 0 rfl e7, c.sm (c.n 0 rfl) e7, (c.n 3 rfl)⟩),
  Ob.d fun c => r_ofBytes rfl Try.underlying58 Try.underlying5 Try.underlying9 rfl (c.ro 4 rfl).1.sl,
  Ob.d fun c => r_assign rfl (c.n 5 rfl),
  Ob.d fun c => r_assign rfl rfl, trivial⟩ ?_
 intro a14 w14 τ14 st14 f14
 obtain ⟨b14x44, e44⟩ : ∃ b, get a14 44 = b := ⟨_, rfl⟩
 have e4 : get a14 4 = (.string (⟨(ys ++ (s.extract a s.size).data.toList).toArray⟩)) := f14.v 6 rfl
 have e5 : get a14 5 = (.int .i64 (0)) := f14.v 7 rfl
 clear f14
 show Code.wp _ _ _ a14 w14
 refine wp_ret ?_
 repeat (first | with_reducible refine then_ret ?_ | with_reducible refine block_ret ?_)
 refine ret2 (fn := Try.f15) rfl st14.defers e4 e5 ?_
 have e2_ : mayEd (s.size : Int) xs = 0 := by assumption
 have e1_ : applyF s xs = ⟨(ys ++ (s.extract a s.size).data.toList).toArray⟩ := apply_done (by assumption) q2 (by omega)
 rw [e1_, e2_]
 exact ⟨rfl, st14.ext0⟩

set_option maxRecDepth 100000 in
set_option maxHeartbeats 4000000 in
theorem refApplyE_c (s : ByteArray) (v : Value) (xs : List (Int × Int × ByteArray)) (w : World) (hS : SlT EditE w v xs) (hs : s.size ≤ 1000000) (hz : sizes xs ≤ 1000000) (hbig : xs.length ≤ 1000000) : Calls Try.prog 16 #[(.string (s)), v] w (fun e w' => e = .returned (.tuple #[.string (applyF s xs), .int .i64 (mayEd (s.size : Int) xs)]) ∧ Ext none' w w') := by
 refine enter (n := 49) Try.func16 rfl rfl (Nat.le_of_ble_eq_true rfl) ?_
 intro a0 τ0 ha st0
 have e0 : get a0 0 = (.string (s)) := ha 0 _ rfl
 have e1 : get a0 1 = v := ha 1 _ rfl
 clear ha
 have hle := hS.le
 have hil := isort_length (lt := ltE) xs
 refine wp_seq ?_
 refine region_St (bf := [0, 1]) (sp := [det _ 4 _, det _ 5 _]) [] mixed st0 (by kernel_rfl) trivial
  ⟨Ob.d fun c => r_assign rfl rfl,
  Ob.d fun c => r_assign rfl rfl, trivial⟩ ?_
 intro a1 w1 τ1 st1 f1
 obtain ⟨e0, e1, -⟩ := f1.ks [(0, _), (1, _)] ⟨e0, e1, trivial⟩
 have e4 : get a1 4 = (.string ((⟨#[]⟩ : ByteArray))) := f1.v 0 rfl
 have e5 : get a1 5 = (.int .i64 (0)) := f1.v 1 rfl
 clear f1
 show Code.wp _ _ _ a1 w1
 refine wp_seq ?_
 refine region_St (bf := [0, 1, 0, 7, 15]) (sp := [det _ 9 _, det _ 10 _, det _ 11 _, det _ 12 _, det _ 6 _]) [] mixed st1 (by kernel_rfl) trivial
  ⟨Ob.d fun c => r_move rfl (c.p e0),
  Ob.d fun c => r_lenS rfl Try.underlying9 (c.n 0 rfl),
  Ob.d fun c => r_move rfl (c.p e1),
  Ob.c fun c => ⟨_, _, (e_call2 rfl rfl Try.call20 (c.n 1 rfl) (c.n 2 rfl)), refMayE_c (s.size : Int) v xs _ (hS.at (st1.ext.trans c.J.ext)) (by first | omega | (simp only [List.length_append, Array.length_toList, ByteArray.size_data, ByteArray.size_extract, List.length_set, ByteArray.size_append]; omega))⟩,
  Ob.d fun c => r_assign rfl (c.n 3 rfl), trivial⟩ ?_
 intro a2 w2 τ2 st2 f2
 obtain ⟨e0, e1, e4, e5, -⟩ := f2.ks [(0, _), (1, _), (4, _), (5, _)] ⟨e0, e1, e4, e5, trivial⟩
 have e6 : get a2 6 = (.int .i64 (mayEd (s.size : Int) xs)) := f2.v 4 rfl
 clear f2
 show Code.wp _ _ _ a2 w2
 refine wp_seq ?_
 refine wp_seq ?_
 refine region_St (bf := [0, 1]) (sp := [det _ 13 _, det _ 14 _]) [] mixed st2 (by kernel_rfl) trivial
  ⟨Ob.d fun c => r_move rfl (c.p e6),
  Ob.d fun c => r_neq rfl (c.n 0 rfl) rfl, trivial⟩ ?_
 intro a3 w3 τ3 st3 f3
 obtain ⟨e0, e1, e4, e5, e6, -⟩ := f3.ks [(0, _), (1, _), (4, _), (5, _), (6, _)] ⟨e0, e1, e4, e5, e6, trivial⟩
 have e14 : get a3 14 = (.bool (!decide (mayEd (s.size : Int) xs = 0))) := f3.v 1 rfl
 clear f3
 show Code.wp _ _ _ a3 w3
 refine wp_cond_split (t := !decide (mayEd (s.size : Int) xs = 0)) e14 (fun hc1 => ?_) (fun hc1 => ?_)
 · try simp only [Bool.not_eq_true', Bool.not_eq_false', decide_eq_true_eq, decide_eq_false_iff_not] at hc1
   refine wp_seq ?_
   refine region_St (bf := [0, 0, 3]) (sp := [det _ 15 _, det _ 4 _, det _ 5 _]) [] mixed st3 (by kernel_rfl) trivial
    ⟨Ob.d fun c => r_move rfl (c.p e6),
    Ob.d fun c => r_assign rfl rfl,
    Ob.d fun c => r_assign rfl (c.n 0 rfl), trivial⟩ ?_
   intro a4 w4 τ4 st4 f4
   obtain ⟨e0, e1, -⟩ := f4.ks [(0, _), (1, _)] ⟨e0, e1, trivial⟩
   have e4 : get a4 4 = (.string ((⟨#[]⟩ : ByteArray))) := f4.v 1 rfl
   have e5 : get a4 5 = (.int .i64 (mayEd (s.size : Int) xs)) := f4.v 2 rfl
   clear f4
   show Code.wp _ _ _ a4 w4
   refine wp_ret ?_
   repeat (first | with_reducible refine then_ret ?_ | with_reducible refine block_ret ?_)
   refine ret2 (fn := Try.f16) rfl st4.defers e4 e5 ?_
   rw [apply_none (s := s) (es := xs) (by assumption)]
   exact ⟨rfl, st4.ext0⟩
 try simp only [Bool.not_eq_true', Bool.not_eq_false', decide_eq_true_eq, decide_eq_false_iff_not] at hc1
 refine wp_skip ?_
 show Code.wp _ _ _ a3 w3
 refine wp_seq ?_
 refine region_St (bf := [0, 1, 3]) (sp := [det _ 16 _, own _ _ _ 0 17 _, own _ _ _ 0 7 _]) [] mixed st3 (by kernel_rfl) trivial
  ⟨Ob.d fun c => r_move rfl (c.p e1),
  Ob.callOwn rfl rfl rfl (fun _ a_ _ _ c => ⟨_, _, (e_call1 rfl rfl Try.call23 (c.n 0 rfl)), refSortE_c v xs _ (hS.at (st3.ext.trans c.J.ext)) (by first | omega | (simp only [List.length_append, Array.length_toList, ByteArray.size_data, ByteArray.size_extract, List.length_set, ByteArray.size_append]; omega))⟩),
  Ob.moveT (t0 := 17) rfl rfl rfl rfl rfl (.inr rfl) (fun _ _ _ _ c => ⟨c.ro 1 rfl, rfl⟩), trivial⟩ ?_
 intro a5 w5 τ5 st5 f5
 obtain ⟨b5x7, e7⟩ : ∃ b, get a5 7 = b := ⟨_, rfl⟩
 obtain ⟨e0, e4, e5, -⟩ := f5.ks [(0, _), (4, _), (5, _)] ⟨e0, e4, e5, trivial⟩
 have r0 : ownR EditE 45 (isort ltE xs) (τ5 0) b5x7 w5 := f5.ro 2 e7 rfl
 clear f5
 have hap := may_ap (n := (s.size : Int)) (es := xs) (by assumption) (by omega)
 have hal := app_small hap hs hz
 show Code.wp _ _ _ a5 w5
 refine wp_seq ?_
 refine wp_seq ?_
 refine region_St (bf := [0, 1, 3, 7]) (sp := [det _ 18 _, det _ 19 _, det _ 20 _, det _ 8 _]) [io r0] mixed st5 (by kernel_rfl) ⟨r0, trivial⟩
  ⟨Ob.d fun c => r_move rfl (c.p e7),
  Ob.d fun c => r_len rfl Try.underlying22 (c.n 0 rfl) r0.isSl,
  Ob.d fun c => r_sub rfl (c.n 1 rfl) rfl (by first | omega | (simp only [List.length_append, Array.length_toList, ByteArray.size_data, ByteArray.size_extract, List.length_set, ByteArray.size_append]; omega)),
  Ob.d fun c => r_assign rfl (c.n 2 rfl), trivial⟩ ?_
 intro a6 w6 τ6 st6 f6
 obtain ⟨e0, e4, e5, e7, -⟩ := f6.ks [(0, _), (4, _), (5, _), (7, _)] ⟨e0, e4, e5, e7, trivial⟩
 have e8 : get a6 8 = (.int .i64 (((isort ltE xs).length : Int) - 1)) := f6.v 3 rfl
 replace r0 := f6.io 0 rfl
 clear f6
 show Code.wp _ _ _ a6 w6
 refine wp_block ?_
 refine wp_loop (fun a_ w_ => ∃ (m : Nat) (t : ByteArray) (τ : Nat → Foot), (m ≤ (isort ltE xs).length) ∧
      (bs t = appR (bs s) ((isort ltE xs).drop m)) ∧
      St (Nw w) w 49 a_ w_ τ ∧
      get a_ 0 = (.string (t)) ∧
      get a_ 8 = (.int .i64 ((m : Int) - 1)) ∧
      get a_ 4 = (.string ((⟨#[]⟩ : ByteArray))) ∧
      get a_ 5 = (.int .i64 (0)) ∧
      get a_ 7 = b5x7 ∧
      ownR EditE 45 (isort ltE xs) (τ 0) b5x7 w_) (fun a_ _ => (intOf (get a_ 8) + 1).toNat) ?_ ?_
 · refine ⟨(isort ltE xs).length, s, τ6, ?_, ?_, st6, e0, (e8.trans (int_eq (by omega))), e4, e5, e7, r0⟩
   · omega
   · rw [List.drop_of_length_le (Nat.le_refl _)]; rfl
 intro a7 w7 hI
 obtain ⟨m, t, τ7, q0, q1, st7, e0, e8, e4, e5, e7, r0⟩ := hI
 have hk1 : 0 < m → 0 ≤ (nth (isort ltE xs) ((m : Int) - 1)).1 ∧ (nth (isort ltE xs) ((m : Int) - 1)).1 ≤ (nth (isort ltE xs) ((m : Int) - 1)).2.1 ∧ (nth (isort ltE xs) ((m : Int) - 1)).2.1 ≤ (t.size : Int) := fun h_ => by
   have h2_ := appR_at (k := m - 1) hap (by omega)
   rw [show m - 1 + 1 = m by omega, ← q1, bs_len] at h2_
   rw [show (m : Int) - 1 = ((m - 1 : Nat) : Int) by omega]
   exact h2_
 have hts : t.size ≤ 2000000 := by
   have h_ := appR_small (k := m) hap hs hz
   rw [← q1, bs_len] at h_
   exact h_
 have hsz : 0 < m → ((nth (isort ltE xs) ((m : Int) - 1)).2.2.size : Int) ≤ 1000000 := fun h_ => by
   have h2_ := size_at (k := m - 1) (isort_perm (lt := ltE) xs) (by omega)
   rw [show (m : Int) - 1 = ((m - 1 : Nat) : Int) by omega]
   omega
 have m8 := e8
 refine wp_seq ?_
 refine wp_seq ?_
 refine region_St (bf := [0, 1]) (sp := [det _ 21 _, det _ 22 _]) [io r0] mixed st7 (by kernel_rfl) ⟨r0, trivial⟩
  ⟨Ob.d fun c => r_move rfl (c.p e8),
  Ob.d fun c => r_geq rfl (c.n 0 rfl) rfl, trivial⟩ ?_
 intro a8 w8 τ8 st8 f8
 obtain ⟨e0, e4, e5, e7, e8, -⟩ := f8.ks [(0, _), (4, _), (5, _), (7, _), (8, _)] ⟨e0, e4, e5, e7, e8, trivial⟩
 have e22 : get a8 22 = (.bool (decide (0 ≤ (m : Int) - 1))) := f8.v 1 rfl
 replace r0 := f8.io 0 rfl
 clear f8
 show Code.wp _ _ _ a8 w8
 refine wp_cond_split (t := decide (0 ≤ (m : Int) - 1)) e22 (fun hc2 => ?_) (fun hc2 => ?_)
 · try simp only [decide_eq_true_eq] at hc2
   refine wp_skip ?_
   show Code.wp _ _ _ a8 w8
   refine wp_seq ?_
   refine wp_block ?_
   refine region_St (bf := [0, 0, 0, 6, 14, 30, 62, 127, 0, 0, 768, 1792, 3840, 8191, 0, 0, 0, 98304, 229376, 491520, 1015808, 2080768, 4194303, 8388607]) (sp := [det _ 25 _, det _ 26 _, det _ 27 _, det _ 28 _, det _ 29 _, det _ 30 _, det _ 31 _, det _ 32 _, det _ 33 _, det _ 34 _, det _ 35 _, det _ 36 _, det _ 37 _, det _ 38 _, det _ 39 _, det _ 40 _, det _ 41 _, det _ 42 _, det _ 43 _, det _ 44 _, det _ 45 _, det _ 46 _, det _ 47 _, det _ 0 _]) [io r0] mixed st8 (by kernel_rfl) ⟨r0, trivial⟩
    ⟨Ob.d fun c => r_move rfl (c.p e0),
    Ob.d fun c => r_move rfl (c.p e7),
    Ob.d fun c => r_move rfl (c.p e8),
    Ob.d fun c => r_indexAddr rfl Try.underlying22 Try.sizeOf45 (c.n 1 rfl) r0.isSl (c.n 2 rfl) (by first | omega | (simp only [List.length_append, Array.length_toList, ByteArray.size_data, ByteArray.size_extract, List.length_set, ByteArray.size_append]; omega)) (by first | omega | (simp only [List.length_append, Array.length_toList, ByteArray.size_data, ByteArray.size_extract, List.length_set, ByteArray.size_append]; omega)),
    Ob.d fun c => r_fieldAddr rfl Try.underlying45 rfl rfl Try.sizeOf43 (c.n 3 rfl),
    Ob.d fun c => r_fieldAddr rfl Try.underlying43 rfl rfl Try.sizeOf3 (c.n 4 rfl),
    Ob.d fun c => r_load1 rfl Try.isAgg3 (c.n 5 rfl) (by have h_ := ((c.io 0 rfl).1.sl).elem (j := 0) (nth_some (i := (m : Int) - 1) (by first | omega | (simp only [List.length_append, Array.length_toList, ByteArray.size_data, ByteArray.size_extract, List.length_set, ByteArray.size_append]; omega)) (by first | omega | (simp only [List.length_append, Array.length_toList, ByteArray.size_data, ByteArray.size_extract, List.length_set, ByteArray.size_append]; omega))) rfl; rw [add_add] at h_; rw [add_add, add_add]; exact h_),
    Ob.d fun c => r_subHi (s := t) (q := (nth (isort ltE xs) ((m : Int) - 1)).1) rfl Try.underlying9 (c.n 0 rfl) (c.n 6 rfl) (by first | omega | (simp only [List.length_append, Array.length_toList, ByteArray.size_data, ByteArray.size_extract, List.length_set, ByteArray.size_append]; omega)) (by first | omega | (simp only [List.length_append, Array.length_toList, ByteArray.size_data, ByteArray.size_extract, List.length_set, ByteArray.size_append]; omega)),
    Ob.d fun c => r_move rfl (c.p e7),
    Ob.d fun c => r_move rfl (c.p e8),
    Ob.d fun c => r_indexAddr rfl Try.underlying22 Try.sizeOf45 (c.n 8 rfl) r0.isSl (c.n 9 rfl) (by first | omega | (simp only [List.length_append, Array.length_toList, ByteArray.size_data, ByteArray.size_extract, List.length_set, ByteArray.size_append]; omega)) (by first | omega | (simp only [List.length_append, Array.length_toList, ByteArray.size_data, ByteArray.size_extract, List.length_set, ByteArray.size_append]; omega)),
    Ob.d fun c => r_fieldAddr rfl Try.underlying45 rfl rfl Try.sizeOf9 (c.n 10 rfl),
    Ob.d fun c => r_load1 rfl Try.isAgg9 (c.n 11 rfl) (((c.io 0 rfl).1.sl).elem (j := 2) (nth_some (i := (m : Int) - 1) (by first | omega | (simp only [List.length_append, Array.length_toList, ByteArray.size_data, ByteArray.size_extract, List.length_set, ByteArray.size_append]; omega)) (by first | omega | (simp only [List.length_append, Array.length_toList, ByteArray.size_data, ByteArray.size_extract, List.length_set, ByteArray.size_append]; omega))) rfl),
    Ob.d fun c => r_sadd rfl (c.n 7 rfl) (c.n 12 rfl) (by first | omega | (simp only [List.length_append, Array.length_toList, ByteArray.size_data, ByteArray.size_extract, List.length_set, ByteArray.size_append]; omega)),
    Ob.d fun c => r_move rfl (c.p e0),
    Ob.d fun c => r_move rfl (c.p e7),
    Ob.d fun c => r_move rfl (c.p e8),
    Ob.d fun c => r_indexAddr rfl Try.underlying22 Try.sizeOf45 (c.n 15 rfl) r0.isSl (c.n 16 rfl) (by first | omega | (simp only [List.length_append, Array.length_toList, ByteArray.size_data, ByteArray.size_extract, List.length_set, ByteArray.size_append]; omega)) (by first | omega | (simp only [List.length_append, Array.length_toList, ByteArray.size_data, ByteArray.size_extract, List.length_set, ByteArray.size_append]; omega)),
    Ob.d fun c => r_fieldAddr rfl Try.underlying45 rfl rfl Try.sizeOf43 (c.n 17 rfl),
    Ob.d fun c => r_fieldAddr rfl Try.underlying43 rfl rfl Try.sizeOf3 (c.n 18 rfl),
    Ob.d fun c => r_load1 rfl Try.isAgg3 (c.n 19 rfl) (by have h_ := ((c.io 0 rfl).1.sl).elem (j := 1) (nth_some (i := (m : Int) - 1) (by first | omega | (simp only [List.length_append, Array.length_toList, ByteArray.size_data, ByteArray.size_extract, List.length_set, ByteArray.size_append]; omega)) (by first | omega | (simp only [List.length_append, Array.length_toList, ByteArray.size_data, ByteArray.size_extract, List.length_set, ByteArray.size_append]; omega))) rfl; rw [add_add] at h_; rw [add_add, add_add]; exact h_),
    Ob.d fun c => r_subLo (s := t) (p := (nth (isort ltE xs) ((m : Int) - 1)).2.1) rfl Try.underlying9 (c.n 14 rfl) (c.n 20 rfl) (by first | omega | (simp only [List.length_append, Array.length_toList, ByteArray.size_data, ByteArray.size_extract, List.length_set, ByteArray.size_append]; omega)) (by first | omega | (simp only [List.length_append, Array.length_toList, ByteArray.size_data, ByteArray.size_extract, List.length_set, ByteArray.size_append]; omega)),
    Ob.d fun c => r_sadd rfl (c.n 13 rfl) (c.n 21 rfl) (by first | omega | (simp only [List.length_append, Array.length_toList, ByteArray.size_data, ByteArray.size_extract, List.length_set, ByteArray.size_append]; omega)),
    Ob.d fun c => r_assign rfl (c.n 22 rfl), trivial⟩ ?_
   intro a9 w9 τ9 st9 f9
   obtain ⟨e4, e5, e7, e8, e22, -⟩ := f9.ks [(4, _), (5, _), (7, _), (8, _), (22, _)] ⟨e4, e5, e7, e8, e22, trivial⟩
   have e0 : get a9 0 = (.string (((t.extract 0 ((nth (isort ltE xs) ((m : Int) - 1)).1).toNat) ++ ((nth (isort ltE xs) ((m : Int) - 1)).2.2)) ++ (t.extract ((nth (isort ltE xs) ((m : Int) - 1)).2.1).toNat t.size))) := f9.v 23 rfl
   replace r0 := f9.io 0 rfl
   clear f9
   show _
   show Code.wp _ _ _ a9 w9
   refine region_St (bf := [0, 1, 3]) (sp := [det _ 23 _, det _ 24 _, det _ 8 _]) [io r0] mixed st9 (by kernel_rfl) ⟨r0, trivial⟩
    ⟨Ob.d fun c => r_move rfl (c.p e8),
    Ob.d fun c => r_sub rfl (c.n 0 rfl) rfl (by first | omega | (simp only [List.length_append, Array.length_toList, ByteArray.size_data, ByteArray.size_extract, List.length_set, ByteArray.size_append]; omega)),
    Ob.d fun c => r_assign rfl (c.n 1 rfl), trivial⟩ ?_
   intro a10 w10 τ10 st10 f10
   obtain ⟨e0, e4, e5, e7, e22, -⟩ := f10.ks [(0, _), (4, _), (5, _), (7, _), (22, _)] ⟨e0, e4, e5, e7, e22, trivial⟩
   have e8 : get a10 8 = (.int .i64 ((m : Int) - 1 - 1)) := f10.v 2 rfl
   replace r0 := f10.io 0 rfl
   clear f10
   refine ⟨⟨m - 1, ((t.extract 0 ((nth (isort ltE xs) ((m : Int) - 1)).1).toNat) ++ ((nth (isort ltE xs) ((m : Int) - 1)).2.2)) ++ (t.extract ((nth (isort ltE xs) ((m : Int) - 1)).2.1).toNat t.size), τ10, ?_, ?_, st10, e0, (e8.trans (int_eq (by omega))), e4, e5, e7, r0⟩, ?_⟩
   · omega
   · rw [show (m : Int) - 1 = ((m - 1 : Nat) : Int) by omega]; exact appR_next (by omega) (by rw [show m - 1 + 1 = m by omega]; exact q1)
   · simp only [m8, e8, intOf]; omega
 try simp only [decide_eq_false_iff_not, Int.not_le] at hc2
 refine wp_exit ?_
 repeat (with_reducible refine then_exit ?_)
 refine exit_here ?_
 show Code.wp _ _ _ a8 w8
 refine wp_seq ?_
 refine region_St (bf := [0, 1, 3]) (sp := [det _ 48 _, det _ 4 _, det _ 5 _]) [io r0] mixed st8 (by kernel_rfl) ⟨r0, trivial⟩
  ⟨Ob.d fun c => r_move rfl (c.p e0),
  Ob.d fun c => r_assign rfl (c.n 0 rfl),
  Ob.d fun c => r_assign rfl rfl, trivial⟩ ?_
 intro a11 w11 τ11 st11 f11
 have e4 : get a11 4 = (.string (t)) := f11.v 1 rfl
 have e5 : get a11 5 = (.int .i64 (0)) := f11.v 2 rfl
 clear f11
 show Code.wp _ _ _ a11 w11
 refine wp_ret ?_
 repeat (first | with_reducible refine then_ret ?_ | with_reducible refine block_ret ?_)
 refine ret2 (fn := Try.f16) rfl st11.defers e4 e5 ?_
 have e2_ : mayEd (s.size : Int) xs = 0 := by assumption
 have e1_ : applyF s xs = t := appR_done (by assumption) (by rw [q1]; obtain rfl : m = 0 := (by omega); rw [List.drop_zero])
 rw [e1_, e2_]
 exact ⟨rfl, st11.ext0⟩

set_option maxRecDepth 100000 in
set_option maxHeartbeats 4000000 in
theorem backE_c (s : ByteArray) (v : Value) (xs : List (Int × Int × ByteArray)) (w : World) (hS : SlT EditE w v xs) (hs : s.size ≤ 1000000) (hz : sizes xs ≤ 1000000) (hbig : xs.length ≤ 1000000) : Calls Try.prog 17 #[(.string (s)), v] w (fun e w' => ∃ v', e = .returned (.tuple #[v', .int .i64 (mayEd (s.size : Int) xs)]) ∧ Ext none' w w' ∧ NewT EditE 45 w w' v' (backF s xs)) := by
 refine enter (n := 102) Try.func17 rfl rfl (Nat.le_of_ble_eq_true rfl) ?_
 intro a0 τ0 ha st0
 have e0 : get a0 0 = (.string (s)) := ha 0 _ rfl
 have e1 : get a0 1 = v := ha 1 _ rfl
 clear ha
 have hle := hS.le
 have hil := isort_length (lt := ltE) xs
 refine wp_seq ?_
 refine region_St (bf := [0, 1]) (sp := [det _ 4 _, det _ 5 _]) [] mixed st0 (by kernel_rfl) trivial
  ⟨Ob.d fun c => r_assign rfl rfl,
  Ob.d fun c => r_assign rfl rfl, trivial⟩ ?_
 intro a1 w1 τ1 st1 f1
 obtain ⟨e0, e1, -⟩ := f1.ks [(0, _), (1, _)] ⟨e0, e1, trivial⟩
 have e4 : get a1 4 = (.slice none 0 0) := f1.v 0 rfl
 have e5 : get a1 5 = (.int .i64 (0)) := f1.v 1 rfl
 clear f1
 show Code.wp _ _ _ a1 w1
 refine wp_seq ?_
 refine wp_seq ?_
 refine region_St (bf := [0, 1, 0, 7, 15]) (sp := [det _ 15 _, det _ 16 _, det _ 17 _, det _ 18 _, det _ 6 _]) [] mixed st1 (by kernel_rfl) trivial
  ⟨Ob.d fun c => r_move rfl (c.p e0),
  Ob.d fun c => r_lenS rfl Try.underlying9 (c.n 0 rfl),
  Ob.d fun c => r_move rfl (c.p e1),
  Ob.c fun c => ⟨_, _, (e_call2 rfl rfl Try.call19 (c.n 1 rfl) (c.n 2 rfl)), mayE_c (s.size : Int) v xs _ (hS.at (st1.ext.trans c.J.ext)) (by first | omega | (simp only [List.length_append, Array.length_toList, ByteArray.size_data, ByteArray.size_extract, List.length_set, ByteArray.size_append]; omega))⟩,
  Ob.d fun c => r_assign rfl (c.n 3 rfl), trivial⟩ ?_
 intro a2 w2 τ2 st2 f2
 obtain ⟨e0, e1, e4, e5, -⟩ := f2.ks [(0, _), (1, _), (4, _), (5, _)] ⟨e0, e1, e4, e5, trivial⟩
 have e6 : get a2 6 = (.int .i64 (mayEd (s.size : Int) xs)) := f2.v 4 rfl
 clear f2
 show Code.wp _ _ _ a2 w2
 refine wp_seq ?_
 refine region_St (bf := [0, 1]) (sp := [det _ 19 _, det _ 20 _]) [] mixed st2 (by kernel_rfl) trivial
  ⟨Ob.d fun c => r_move rfl (c.p e6),
  Ob.d fun c => r_neq rfl (c.n 0 rfl) rfl, trivial⟩ ?_
 intro a3 w3 τ3 st3 f3
 obtain ⟨e0, e1, e4, e5, e6, -⟩ := f3.ks [(0, _), (1, _), (4, _), (5, _), (6, _)] ⟨e0, e1, e4, e5, e6, trivial⟩
 have e20 : get a3 20 = (.bool (!decide (mayEd (s.size : Int) xs = 0))) := f3.v 1 rfl
 clear f3
 show Code.wp _ _ _ a3 w3
 refine wp_cond_split (t := !decide (mayEd (s.size : Int) xs = 0)) e20 (fun hc1 => ?_) (fun hc1 => ?_)
 · try simp only [Bool.not_eq_true', Bool.not_eq_false', decide_eq_true_eq, decide_eq_false_iff_not] at hc1
   refine wp_seq ?_
   refine region_St (bf := [0, 0, 3]) (sp := [det _ 21 _, det _ 4 _, det _ 5 _]) [] mixed st3 (by kernel_rfl) trivial
    ⟨Ob.d fun c => r_move rfl (c.p e6),
    Ob.d fun c => r_assign rfl rfl,
    Ob.d fun c => r_assign rfl (c.n 0 rfl), trivial⟩ ?_
   intro a4 w4 τ4 st4 f4
   obtain ⟨e0, e1, -⟩ := f4.ks [(0, _), (1, _)] ⟨e0, e1, trivial⟩
   have e4 : get a4 4 = (.slice none 0 0) := f4.v 1 rfl
   have e5 : get a4 5 = (.int .i64 (mayEd (s.size : Int) xs)) := f4.v 2 rfl
   clear f4
   show Code.wp _ _ _ a4 w4
   refine wp_ret ?_
   repeat (first | with_reducible refine then_ret ?_ | with_reducible refine block_ret ?_)
   refine ret2 (fn := Try.f17) rfl st4.defers e4 e5 ?_
   have e1_ : backF s xs = [] := by rw [backF, if_neg (by assumption)]
   rw [e1_]
   exact ⟨_, rfl, st4.ext0, OwnT.nil _ _ _, fun g_ h_ => by simp [Value.ownBlock] at h_⟩
 try simp only [Bool.not_eq_true', Bool.not_eq_false', decide_eq_true_eq, decide_eq_false_iff_not] at hc1
 refine wp_skip ?_
 show Code.wp _ _ _ a3 w3
 refine wp_seq ?_
 refine region_St (bf := [0]) (sp := [det _ 7 _]) [] mixed st3 (by kernel_rfl) trivial
  ⟨Ob.d fun c => r_assign rfl rfl, trivial⟩ ?_
 intro a5 w5 τ5 st5 f5
 obtain ⟨e0, e1, e4, e5, -⟩ := f5.ks [(0, _), (1, _), (4, _), (5, _)] ⟨e0, e1, e4, e5, trivial⟩
 have e7 : get a5 7 = (.slice none 0 0) := f5.v 0 rfl
 clear f5
 have hap := may_ap (n := (s.size : Int)) (es := xs) (by assumption) (by omega)
 have hal := app_small hap hs hz
 show Code.wp _ _ _ a5 w5
 refine wp_seq ?_
 refine region_St (bf := [0]) (sp := [det _ 8 _]) [] mixed st5 (by kernel_rfl) trivial
  ⟨Ob.d fun c => r_assign rfl rfl, trivial⟩ ?_
 intro a6 w6 τ6 st6 f6
 obtain ⟨e0, e1, e4, e5, e7, -⟩ := f6.ks [(0, _), (1, _), (4, _), (5, _), (7, _)] ⟨e0, e1, e4, e5, e7, trivial⟩
 have e8 : get a6 8 = (.int .i64 (0)) := f6.v 0 rfl
 clear f6
 show Code.wp _ _ _ a6 w6
 refine wp_seq ?_
 refine region_St (bf := [0]) (sp := [det _ 9 _]) [] mixed st6 (by kernel_rfl) trivial
  ⟨Ob.d fun c => r_assign rfl rfl, trivial⟩ ?_
 intro a7 w7 τ7 st7 f7
 obtain ⟨e0, e1, e4, e5, e7, e8, -⟩ := f7.ks [(0, _), (1, _), (4, _), (5, _), (7, _), (8, _)] ⟨e0, e1, e4, e5, e7, e8, trivial⟩
 have e9 : get a7 9 = (.int .i64 ((-1))) := f7.v 0 rfl
 clear f7
 show Code.wp _ _ _ a7 w7
 refine wp_seq ?_
 refine wp_seq ?_
 refine region_St (bf := [0, 1, 3, 0]) (sp := [det _ 22 _, own _ _ _ 1 23 _, det _ 24 _, det _ 25 _]) [] mixed st7 (by kernel_rfl) trivial
  ⟨Ob.d fun c => r_move rfl (c.p e1),
  Ob.callOwn rfl rfl rfl (fun _ a_ _ _ c => ⟨_, _, (e_call1 rfl rfl Try.call22 (c.n 0 rfl)), sortE_c v xs _ (hS.at (st7.ext.trans c.J.ext)) (by first | omega | (simp only [List.length_append, Array.length_toList, ByteArray.size_data, ByteArray.size_extract, List.length_set, ByteArray.size_append]; omega))⟩),
  Ob.d fun c => r_len rfl Try.underlying22 rfl (c.ro 1 rfl).isSl,
  Ob.d fun c => r_move rfl rfl, trivial⟩ ?_
 intro a8 w8 τ8 st8 f8
 obtain ⟨b8x23, e23⟩ : ∃ b, get a8 23 = b := ⟨_, rfl⟩
 obtain ⟨e0, e4, e5, e7, e8, e9, -⟩ := f8.ks [(0, _), (4, _), (5, _), (7, _), (8, _), (9, _)] ⟨e0, e4, e5, e7, e8, e9, trivial⟩
 have e24 : get a8 24 = (.int .i64 (((isort ltE xs).length : Int))) := f8.v 2 rfl
 have e25 : get a8 25 = (.int .i64 (0)) := f8.v 3 rfl
 have r1 : ownR EditE 45 (isort ltE xs) (τ8 1) b8x23 w8 := f8.ro 1 e23 rfl
 clear f8
 show Code.wp _ _ _ a8 w8
 refine wp_block ?_
 refine wp_loop (fun a_ w_ => ∃ (k : Nat) (u : Value) (τ : Nat → Foot), (k ≤ (isort ltE xs).length) ∧
      St (Nw w) w 102 a_ w_ τ ∧
      get a_ 7 = u ∧
      get a_ 8 = (.int .i64 ((backS s ((isort ltE xs).take k)).2.1)) ∧
      get a_ 9 = (.int .i64 ((backS s ((isort ltE xs).take k)).2.2)) ∧
      get a_ 25 = (.int .i64 ((k : Int))) ∧
      get a_ 0 = (.string (s)) ∧
      get a_ 4 = (.slice none 0 0) ∧
      get a_ 5 = (.int .i64 (0)) ∧
      get a_ 23 = b8x23 ∧
      get a_ 24 = (.int .i64 (((isort ltE xs).length : Int))) ∧
      ownR EditE 45 ((backS s ((isort ltE xs).take k)).1) (τ 0) u w_ ∧
      ownR EditE 45 (isort ltE xs) (τ 1) b8x23 w_) (fun a_ _ => (isort ltE xs).length - (intOf (get a_ 25)).toNat) ?_ ?_
 · refine ⟨0, (.slice none 0 0), τ8, ?_, st8, e7, (e8.trans (int_eq (by first | omega | rfl | (rw [back_by (by omega)]; first | omega | (rw [hlw (by omega)])) | exact (back_last (by omega)).symm))), (e9.trans (int_eq (by first | omega | rfl | (rw [back_by (by omega)]; first | omega | (rw [hlw (by omega)])) | exact (back_last (by omega)).symm))), (e25.trans (int_eq (by first | omega | rfl | (rw [back_by (by omega)]; first | omega | (rw [hlw (by omega)])) | exact (back_last (by omega)).symm))), e0, e4, e5, e23, e24, ?_, r1⟩
   · omega
   · exact ownR.nil _ _ _ _
 intro a9 w9 hI
 obtain ⟨k, u, τ9, q0, st9, e7, e8, e9, e25, e0, e4, e5, e23, e24, r0, r1⟩ := hI
 have hk1 := ap_at3 (k := k) (L := (isort ltE xs)) (ap_drop hap)
 have hsz := size_at (k := k) (isort_perm (lt := ltE) xs)
 have hbg := back_grown (k := k) hap hs hz
 have hbl := backS_take (s := s) (L := (isort ltE xs)) (k := k)
 have hba := back_at (k := k) (i := ((backS s ((isort ltE xs).take k)).1.length : Int) - 1) hap hs hz
 have hlw : k < (isort ltE xs).length → lenW ((nth (isort ltE xs) (k : Int)).1, (nth (isort ltE xs) (k : Int)).2.1) = (nth (isort ltE xs) (k : Int)).2.1 - (nth (isort ltE xs) (k : Int)).1 := fun h_ => by have := hk1 h_; unfold lenW; exact w_in (by simp only []; omega)
 have m25 := e25
 refine wp_seq ?_
 refine region_St (bf := [0]) (sp := [det _ 26 _]) [io r0, io r1] mixed st9 (by kernel_rfl) ⟨r0, r1, trivial⟩
  ⟨Ob.d fun c => r_lss rfl (c.p e25) (c.p e24), trivial⟩ ?_
 intro a10 w10 τ10 st10 f10
 obtain ⟨e0, e4, e5, e7, e8, e9, e23, e24, e25, -⟩ := f10.ks [(0, _), (4, _), (5, _), (7, _), (8, _), (9, _), (23, _), (24, _), (25, _)] ⟨e0, e4, e5, e7, e8, e9, e23, e24, e25, trivial⟩
 have e26 : get a10 26 = (.bool (decide ((k : Int) < ((isort ltE xs).length : Int)))) := f10.v 0 rfl
 replace r0 := f10.io 0 rfl
 replace r1 := f10.io 1 rfl
 clear f10
 show Code.wp _ _ _ a10 w10
 refine wp_seq ?_
 refine wp_cond_split (t := decide ((k : Int) < ((isort ltE xs).length : Int))) e26 (fun hc2 => ?_) (fun hc2 => ?_)
 · try simp only [decide_eq_true_eq] at hc2
   refine wp_skip ?_
   show Code.wp _ _ _ a10 w10
   refine wp_seq ?_
   refine wp_block ?_
   refine wp_seq ?_
   refine region_St (bf := [0, 1, 0, 7]) (sp := [det _ 27 _, det _ 28 _, box _ _ 2 11 [(.int .i64 (0)), (.int .i64 (0)), (.string ((⟨#[]⟩ : ByteArray)))], box _ _ 2 11 [(.int .i64 ((nth (isort ltE xs) ((k : Int))).1)), (.int .i64 ((nth (isort ltE xs) ((k : Int))).2.1)), (.string ((nth (isort ltE xs) ((k : Int))).2.2))]]) [io r0, io r1] mixed st10 (by kernel_rfl) ⟨r0, r1, trivial⟩
    ⟨Ob.d fun c => r_indexAddr rfl Try.underlying22 Try.sizeOf45 (c.p e23) r1.isSl (c.p e25) (by first | omega | (simp only [List.length_append, Array.length_toList, ByteArray.size_data, ByteArray.size_extract, List.length_set, ByteArray.size_append]; omega)) (by first | omega | (simp only [List.length_append, Array.length_toList, ByteArray.size_data, ByteArray.size_extract, List.length_set, ByteArray.size_append]; omega)),
    Ob.d fun c => r_loadN (vs := [(.int .i64 ((nth (isort ltE xs) ((k : Int))).1)), (.int .i64 ((nth (isort ltE xs) ((k : Int))).2.1)), (.string ((nth (isort ltE xs) ((k : Int))).2.2))]) rfl Try.isAgg45 Try.sizeOf45 (c.n 0 rfl) rfl (fun _ _ hj => ((c.io 1 rfl).1.sl).elem (nth_some (i := (k : Int)) (by first | omega | (simp only [List.length_append, Array.length_toList, ByteArray.size_data, ByteArray.size_extract, List.length_set, ByteArray.size_append]; omega)) (by first | omega | (simp only [List.length_append, Array.length_toList, ByteArray.size_data, ByteArray.size_extract, List.length_set, ByteArray.size_append]; omega))) hj),
    Ob.alloc rfl rfl rfl rfl Try.zeroValue45 rfl,
    Ob.storeBox (off := 0) (v := (.agg #[(.int .i64 ((nth (isort ltE xs) ((k : Int))).1)), (.int .i64 ((nth (isort ltE xs) ((k : Int))).2.1)), (.string ((nth (isort ltE xs) ((k : Int))).2.2))])) rfl rfl rfl rfl Try.sizeOf45 (Nat.le_of_ble_eq_true rfl) (by simp [Value.cells, Value.oneCell']) rfl (fun _ _ _ _ c => ⟨c.rb 2 rfl, (c.rb 2 rfl).ptr, (c.n 1 rfl)⟩), trivial⟩ ?_
   intro a11 w11 τ11 st11 f11
   obtain ⟨b11x11, e11⟩ : ∃ b, get a11 11 = b := ⟨_, rfl⟩
   obtain ⟨e0, e4, e5, e7, e8, e9, e23, e24, e25, e26, -⟩ := f11.ks [(0, _), (4, _), (5, _), (7, _), (8, _), (9, _), (23, _), (24, _), (25, _), (26, _)] ⟨e0, e4, e5, e7, e8, e9, e23, e24, e25, e26, trivial⟩
   replace r0 := f11.io 0 rfl
   replace r1 := f11.io 1 rfl
   have r2 : boxR 45 [(.int .i64 ((nth (isort ltE xs) ((k : Int))).1)), (.int .i64 ((nth (isort ltE xs) ((k : Int))).2.1)), (.string ((nth (isort ltE xs) ((k : Int))).2.2))] (τ11 2) b11x11 w11 := f11.rb 3 e11 rfl
   clear f11
   show Code.wp _ _ _ a11 w11
   refine wp_seq ?_
   refine region_St (bf := [0, 1, 3, 0, 15, 31]) (sp := [det _ 29 _, det _ 30 _, det _ 31 _, det _ 32 _, det _ 33 _, det _ 12 _]) [io r0, io r1, ib r2] mixed st11 (by kernel_rfl) ⟨r0, r1, r2, trivial⟩
    ⟨Ob.d fun c => r_fieldAddr rfl Try.underlying45 rfl rfl Try.sizeOf43 ((c.p e11).trans r2.ptr),
    Ob.d fun c => r_fieldAddr rfl Try.underlying43 rfl rfl Try.sizeOf3 (c.n 0 rfl),
    Ob.d fun c => r_load1 rfl Try.isAgg3 (c.n 1 rfl) (by rw [add_add]; exact (c.ib 2 rfl).cell (j := 0) rfl),
    Ob.d fun c => r_move rfl (c.p e8),
    Ob.d fun c => r_add rfl (c.n 2 rfl) (c.n 3 rfl) (by first | omega | (simp only [List.length_append, Array.length_toList, ByteArray.size_data, ByteArray.size_extract, List.length_set, ByteArray.size_append]; omega)),
    Ob.d fun c => r_assign rfl (c.n 4 rfl), trivial⟩ ?_
   intro a12 w12 τ12 st12 f12
   obtain ⟨e0, e4, e5, e7, e8, e9, e11, e23, e24, e25, e26, -⟩ := f12.ks [(0, _), (4, _), (5, _), (7, _), (8, _), (9, _), (11, _), (23, _), (24, _), (25, _), (26, _)] ⟨e0, e4, e5, e7, e8, e9, e11, e23, e24, e25, e26, trivial⟩
   have e12 : get a12 12 = (.int .i64 ((nth (isort ltE xs) ((k : Int))).1 + ((backS s ((isort ltE xs).take k)).2.1))) := f12.v 5 rfl
   replace r0 := f12.io 0 rfl
   replace r1 := f12.io 1 rfl
   replace r2 := f12.ib 2 rfl
   clear f12
   show Code.wp _ _ _ a12 w12
   refine wp_seq ?_
   refine region_St (bf := [0, 0, 2, 6, 0, 16, 48, 126, 255, 511]) (sp := [det _ 34 _, det _ 35 _, det _ 36 _, det _ 37 _, det _ 38 _, det _ 39 _, det _ 40 _, det _ 41 _, det _ 42 _, det _ 8 _]) [io r0, io r1, ib r2] mixed st12 (by kernel_rfl) ⟨r0, r1, r2, trivial⟩
    ⟨Ob.d fun c => r_move rfl (c.p e8),
    Ob.d fun c => r_fieldAddr rfl Try.underlying45 rfl rfl Try.sizeOf9 ((c.p e11).trans r2.ptr),
    Ob.d fun c => r_load1 rfl Try.isAgg9 (c.n 1 rfl) ((c.ib 2 rfl).cell (j := 2) rfl),
    Ob.d fun c => r_lenS rfl Try.underlying9 (c.n 2 rfl),
    Ob.d fun c => r_fieldAddr rfl Try.underlying45 rfl rfl Try.sizeOf43 ((c.p e11).trans r2.ptr),
    Ob.d fun c => r_loadN (vs := [(.int .i64 ((nth (isort ltE xs) ((k : Int))).1)), (.int .i64 ((nth (isort ltE xs) ((k : Int))).2.1))]) rfl Try.isAgg43 Try.sizeOf43 (c.n 4 rfl) rfl (fun j_ _ hj => by rw [add_add]; exact (c.ib 2 rfl).cell (j := 0 + j_) (part_cells (l := [(.int .i64 ((nth (isort ltE xs) ((k : Int))).1)), (.int .i64 ((nth (isort ltE xs) ((k : Int))).2.1)), (.string ((nth (isort ltE xs) ((k : Int))).2.2))]) (o := 0) (n := 2) rfl hj)),
    Ob.c fun c => ⟨_, _, (e_call1 rfl rfl Try.call30 (c.n 5 rfl)), len_c ((nth (isort ltE xs) ((k : Int))).1, (nth (isort ltE xs) ((k : Int))).2.1) _⟩,
    Ob.d fun c => r_sub rfl (c.n 3 rfl) (c.n 6 rfl) (by first | omega | (simp only [List.length_append, Array.length_toList, ByteArray.size_data, ByteArray.size_extract, List.length_set, ByteArray.size_append]; omega)),
    Ob.d fun c => r_add rfl (c.n 0 rfl) (c.n 7 rfl) (by first | omega | (simp only [List.length_append, Array.length_toList, ByteArray.size_data, ByteArray.size_extract, List.length_set, ByteArray.size_append]; omega)),
    Ob.d fun c => r_assign rfl (c.n 8 rfl), trivial⟩ ?_
   intro a13 w13 τ13 st13 f13
   obtain ⟨e0, e4, e5, e7, e9, e11, e12, e23, e24, e25, e26, -⟩ := f13.ks [(0, _), (4, _), (5, _), (7, _), (9, _), (11, _), (12, _), (23, _), (24, _), (25, _), (26, _)] ⟨e0, e4, e5, e7, e9, e11, e12, e23, e24, e25, e26, trivial⟩
   have e8 : get a13 8 = (.int .i64 ((backS s ((isort ltE xs).take k)).2.1 + ((((nth (isort ltE xs) ((k : Int))).2.2).size : Int) - (lenW ((nth (isort ltE xs) ((k : Int))).1, (nth (isort ltE xs) ((k : Int))).2.1))))) := f13.v 9 rfl
   replace r0 := f13.io 0 rfl
   replace r1 := f13.io 1 rfl
   replace r2 := f13.ib 2 rfl
   clear f13
   show Code.wp _ _ _ a13 w13
   refine wp_seq ?_
   refine region_St (bf := [0, 0, 2, 6, 0, 16, 48, 127, 255]) (sp := [det _ 43 _, det _ 44 _, det _ 45 _, det _ 46 _, det _ 47 _, det _ 48 _, det _ 49 _, det _ 50 _, det _ 13 _]) [io r0, io r1, ib r2] mixed st13 (by kernel_rfl) ⟨r0, r1, r2, trivial⟩
    ⟨Ob.d fun c => r_move rfl (c.p e0),
    Ob.d fun c => r_fieldAddr rfl Try.underlying45 rfl rfl Try.sizeOf43 ((c.p e11).trans r2.ptr),
    Ob.d fun c => r_fieldAddr rfl Try.underlying43 rfl rfl Try.sizeOf3 (c.n 1 rfl),
    Ob.d fun c => r_load1 rfl Try.isAgg3 (c.n 2 rfl) (by rw [add_add]; exact (c.ib 2 rfl).cell (j := 0) rfl),
    Ob.d fun c => r_fieldAddr rfl Try.underlying45 rfl rfl Try.sizeOf43 ((c.p e11).trans r2.ptr),
    Ob.d fun c => r_fieldAddr rfl Try.underlying43 rfl rfl Try.sizeOf3 (c.n 4 rfl),
    Ob.d fun c => r_load1 rfl Try.isAgg3 (c.n 5 rfl) (by rw [add_add]; exact (c.ib 2 rfl).cell (j := 1) rfl),
    Ob.d fun c => r_sub2 (s := s) (p := (nth (isort ltE xs) ((k : Int))).1) (q := (nth (isort ltE xs) ((k : Int))).2.1) rfl Try.underlying9 (c.n 0 rfl) (c.n 3 rfl) (c.n 6 rfl) (by first | omega | (simp only [List.length_append, Array.length_toList, ByteArray.size_data, ByteArray.size_extract, List.length_set, ByteArray.size_append]; omega)) (by first | omega | (simp only [List.length_append, Array.length_toList, ByteArray.size_data, ByteArray.size_extract, List.length_set, ByteArray.size_append]; omega)) (by first | omega | (simp only [List.length_append, Array.length_toList, ByteArray.size_data, ByteArray.size_extract, List.length_set, ByteArray.size_append]; omega)),
    Ob.d fun c => r_assign rfl (c.n 7 rfl), trivial⟩ ?_
   intro a14 w14 τ14 st14 f14
   obtain ⟨e0, e4, e5, e7, e8, e9, e11, e12, e23, e24, e25, e26, -⟩ := f14.ks [(0, _), (4, _), (5, _), (7, _), (8, _), (9, _), (11, _), (12, _), (23, _), (24, _), (25, _), (26, _)] ⟨e0, e4, e5, e7, e8, e9, e11, e12, e23, e24, e25, e26, trivial⟩
   have e13 : get a14 13 = (.string (s.extract ((nth (isort ltE xs) ((k : Int))).1).toNat ((nth (isort ltE xs) ((k : Int))).2.1).toNat)) := f14.v 8 rfl
   replace r0 := f14.io 0 rfl
   replace r1 := f14.io 1 rfl
   replace r2 := f14.ib 2 rfl
   clear f14
   show Code.wp _ _ _ a14 w14
   refine wp_seq ?_
   refine wp_seq ?_
   refine region_St (bf := [0, 1, 3, 7]) (sp := [det _ 51 _, det _ 52 _, det _ 53 _, det _ 14 _]) [io r0, io r1, ib r2] mixed st14 (by kernel_rfl) ⟨r0, r1, r2, trivial⟩
    ⟨Ob.d fun c => r_move rfl (c.p e7),
    Ob.d fun c => r_len rfl Try.underlying22 (c.n 0 rfl) r0.isSl,
    Ob.d fun c => r_sub rfl (c.n 1 rfl) rfl (by first | omega | (simp only [List.length_append, Array.length_toList, ByteArray.size_data, ByteArray.size_extract, List.length_set, ByteArray.size_append]; omega)),
    Ob.d fun c => r_assign rfl (c.n 2 rfl), trivial⟩ ?_
   intro a15 w15 τ15 st15 f15
   obtain ⟨e0, e4, e5, e7, e8, e9, e11, e12, e13, e23, e24, e25, e26, -⟩ := f15.ks [(0, _), (4, _), (5, _), (7, _), (8, _), (9, _), (11, _), (12, _), (13, _), (23, _), (24, _), (25, _), (26, _)] ⟨e0, e4, e5, e7, e8, e9, e11, e12, e13, e23, e24, e25, e26, trivial⟩
   have e14 : get a15 14 = (.int .i64 ((((backS s ((isort ltE xs).take k)).1).length : Int) - 1)) := f15.v 3 rfl
   replace r0 := f15.io 0 rfl
   replace r1 := f15.io 1 rfl
   replace r2 := f15.ib 2 rfl
   clear f15
   show Code.wp _ _ _ a15 w15
   refine wp_seq ?_
   refine region_St (bf := [0, 1, 3, 7, 15, 31, 7, 127, 255]) (sp := [det _ 54 _, det _ 55 _, det _ 56 _, gdet _ 57 _ _, gdet _ 58 _ _, gdet _ 59 _ _, gdet _ 60 _ _, gdet _ 61 _ _, det _ 62 _]) [io r0, io r1, ib r2] mixed st15 (by kernel_rfl) ⟨r0, r1, r2, trivial⟩
    ⟨Ob.d fun c => r_move rfl (c.p e14),
    Ob.d fun c => r_geq rfl (c.n 0 rfl) rfl,
    Ob.d fun c => r_move rfl (c.n 1 rfl),
    Ob.g 2 true rfl fun c hpc => r_fieldAddr rfl Try.underlying45 rfl rfl Try.sizeOf43 ((c.p e11).trans r2.ptr),
    Ob.g 2 true rfl fun c hpc => r_fieldAddr rfl Try.underlying43 rfl rfl Try.sizeOf3 (c.m 3 rfl hpc),
    Ob.g 2 true rfl fun c hpc => r_load1 rfl Try.isAgg3 (c.m 4 rfl hpc) (by rw [add_add]; exact (c.ib 2 rfl).cell (j := 0) rfl),
    Ob.g 2 true rfl fun c hpc => r_move rfl (c.p e9),
    Ob.g 2 true rfl fun c hpc => r_eql rfl (c.m 5 rfl hpc) (c.m 6 rfl hpc),
    Ob.d fun c => r_and rfl (c.n 2 rfl) (fun h => c.m 7 rfl h), trivial⟩ ?_
   intro a16 w16 τ16 st16 f16
   obtain ⟨e0, e4, e5, e7, e8, e9, e11, e12, e13, e14, e23, e24, e25, e26, -⟩ := f16.ks [(0, _), (4, _), (5, _), (7, _), (8, _), (9, _), (11, _), (12, _), (13, _), (14, _), (23, _), (24, _), (25, _), (26, _)] ⟨e0, e4, e5, e7, e8, e9, e11, e12, e13, e14, e23, e24, e25, e26, trivial⟩
   have e62 : get a16 62 = (.bool ((decide (0 ≤ (((backS s ((isort ltE xs).take k)).1).length : Int) - 1)) && (decide ((nth (isort ltE xs) ((k : Int))).1 = (backS s ((isort ltE xs).take k)).2.2)))) := f16.v 8 rfl
   replace r0 := f16.io 0 rfl
   replace r1 := f16.io 1 rfl
   replace r2 := f16.ib 2 rfl
   clear f16
   show Code.wp _ _ _ a16 w16
   refine wp_cond_split (t := (decide (0 ≤ (((backS s ((isort ltE xs).take k)).1).length : Int) - 1)) && (decide ((nth (isort ltE xs) ((k : Int))).1 = (backS s ((isort ltE xs).take k)).2.2))) e62 (fun hc3 => ?_) (fun hc3 => ?_)
   · have hd3 := hc3; try simp only [Bool.and_eq_true, decide_eq_true_eq] at hd3
     refine wp_seq ?_
     refine region_St (bf := [0, 0, 3, 7, 15, 31, 0, 64, 192, 511, 1023, 2047, 4095, 8191]) (sp := [det _ 63 _, det _ 64 _, det _ 65 _, det _ 66 _, det _ 67 _, det _ 68 _, det _ 69 _, det _ 70 _, det _ 71 _, det _ 72 _, det _ 73 _, det _ 74 _, det _ 75 _, own _ _ _ 0 7 _]) [io r0, io r1, ib r2] mixed st16 (by kernel_rfl) ⟨r0, r1, r2, trivial⟩
      ⟨Ob.d fun c => r_move rfl (c.p e7),
      Ob.d fun c => r_move rfl (c.p e14),
      Ob.d fun c => r_indexAddr rfl Try.underlying22 Try.sizeOf45 (c.n 0 rfl) r0.isSl (c.n 1 rfl) (by first | omega | (simp only [List.length_append, Array.length_toList, ByteArray.size_data, ByteArray.size_extract, List.length_set, ByteArray.size_append]; omega)) (by first | omega | (simp only [List.length_append, Array.length_toList, ByteArray.size_data, ByteArray.size_extract, List.length_set, ByteArray.size_append]; omega)),
      Ob.d fun c => r_fieldAddr rfl Try.underlying45 rfl rfl Try.sizeOf43 (c.n 2 rfl),
      Ob.d fun c => r_fieldAddr rfl Try.underlying43 rfl rfl Try.sizeOf3 (c.n 3 rfl),
      Ob.d fun c => r_load1 rfl Try.isAgg3 (c.n 4 rfl) (by have h_ := ((c.io 0 rfl).1.sl).elem (j := 1) (nth_some (i := (((backS s ((isort ltE xs).take k)).1).length : Int) - 1) (by first | omega | (simp only [List.length_append, Array.length_toList, ByteArray.size_data, ByteArray.size_extract, List.length_set, ByteArray.size_append]; omega)) (by first | omega | (simp only [List.length_append, Array.length_toList, ByteArray.size_data, ByteArray.size_extract, List.length_set, ByteArray.size_append]; omega))) rfl; rw [add_add] at h_; rw [add_add, add_add]; exact h_),
      Ob.d fun c => r_fieldAddr rfl Try.underlying45 rfl rfl Try.sizeOf9 ((c.p e11).trans r2.ptr),
      Ob.d fun c => r_load1 rfl Try.isAgg9 (c.n 6 rfl) ((c.ib 2 rfl).cell (j := 2) rfl),
      Ob.d fun c => r_lenS rfl Try.underlying9 (c.n 7 rfl),
      Ob.d fun c => r_add rfl (c.n 5 rfl) (c.n 8 rfl) (by first | omega | (simp only [List.length_append, Array.length_toList, ByteArray.size_data, ByteArray.size_extract, List.length_set, ByteArray.size_append]; omega)),
      Ob.d fun c => r_indexAddr rfl Try.underlying22 Try.sizeOf45 (c.n 0 rfl) r0.isSl (c.n 1 rfl) (by first | omega | (simp only [List.length_append, Array.length_toList, ByteArray.size_data, ByteArray.size_extract, List.length_set, ByteArray.size_append]; omega)) (by first | omega | (simp only [List.length_append, Array.length_toList, ByteArray.size_data, ByteArray.size_extract, List.length_set, ByteArray.size_append]; omega)),
      Ob.d fun c => r_fieldAddr rfl Try.underlying45 rfl rfl Try.sizeOf43 (c.n 10 rfl),
      Ob.d fun c => r_fieldAddr rfl Try.underlying43 rfl rfl Try.sizeOf3 (c.n 11 rfl),
      Ob.storeElem (E := EditE) (i := ((((backS s ((isort ltE xs).take k)).1).length : Int) - 1).toNat) (off := 1) (u := (.int .i64 ((nth ((backS s ((isort ltE xs).take k)).1) ((((backS s ((isort ltE xs).take k)).1).length : Int) - 1)).2.1 + (((nth (isort ltE xs) ((k : Int))).2.2).size : Int)))) (x := nth ((backS s ((isort ltE xs).take k)).1) ((((backS s ((isort ltE xs).take k)).1).length : Int) - 1)) (x' := ((nth ((backS s ((isort ltE xs).take k)).1) ((((backS s ((isort ltE xs).take k)).1).length : Int) - 1)).1, (nth ((backS s ((isort ltE xs).take k)).1) ((((backS s ((isort ltE xs).take k)).1).length : Int) - 1)).2.1 + (((nth (isort ltE xs) ((k : Int))).2.2).size : Int), (nth ((backS s ((isort ltE xs).take k)).1) ((((backS s ((isort ltE xs).take k)).1).length : Int) - 1)).2.2)) rfl rfl rfl rfl Try.sizeOf3 (nth_some (by first | omega | (simp only [List.length_append, Array.length_toList, ByteArray.size_data, ByteArray.size_extract, List.length_set, ByteArray.size_append]; omega)) (by (try simp only [List.length_set]); omega)) (Nat.le_of_ble_eq_true rfl) (by simp [Value.cells, Value.oneCell']) rfl (fun _ a_ _ _ c => ⟨c.ip 0 rfl e7, c.ad (c.n 12 rfl) e7 (by rw [add_add, add_add]; rfl), (c.n 9 rfl)⟩), trivial⟩ ?_
     intro a17 w17 τ17 st17 f17
     obtain ⟨e0, e4, e5, e7, e8, e9, e11, e12, e13, e14, e23, e24, e25, e26, e62, -⟩ := f17.ks [(0, _), (4, _), (5, _), (7, _), (8, _), (9, _), (11, _), (12, _), (13, _), (14, _), (23, _), (24, _), (25, _), (26, _), (62, _)] ⟨e0, e4, e5, e7, e8, e9, e11, e12, e13, e14, e23, e24, e25, e26, e62, trivial⟩
     replace r0 : ownR EditE 45 (((backS s ((isort ltE xs).take k)).1).set ((((backS s ((isort ltE xs).take k)).1).length : Int) - 1).toNat ((nth ((backS s ((isort ltE xs).take k)).1) ((((backS s ((isort ltE xs).take k)).1).length : Int) - 1)).1, (nth ((backS s ((isort ltE xs).take k)).1) ((((backS s ((isort ltE xs).take k)).1).length : Int) - 1)).2.1 + (((nth (isort ltE xs) ((k : Int))).2.2).size : Int), (nth ((backS s ((isort ltE xs).take k)).1) ((((backS s ((isort ltE xs).take k)).1).length : Int) - 1)).2.2)) (τ17 0) u w17 := f17.ro 13 e7 rfl
     replace r1 := f17.io 1 rfl
     replace r2 := f17.ib 2 rfl
     clear f17
     have hns : (nth (((backS s ((isort ltE xs).take k)).1).set ((((backS s ((isort ltE xs).take k)).1).length : Int) - 1).toNat ((nth ((backS s ((isort ltE xs).take k)).1) ((((backS s ((isort ltE xs).take k)).1).length : Int) - 1)).1, (nth ((backS s ((isort ltE xs).take k)).1) ((((backS s ((isort ltE xs).take k)).1).length : Int) - 1)).2.1 + (((nth (isort ltE xs) ((k : Int))).2.2).size : Int), (nth ((backS s ((isort ltE xs).take k)).1) ((((backS s ((isort ltE xs).take k)).1).length : Int) - 1)).2.2)) (((backS s ((isort ltE xs).take k)).1.length : Int) - 1)).2.2.size = (nth (backS s ((isort ltE xs).take k)).1 (((backS s ((isort ltE xs).take k)).1.length : Int) - 1)).2.2.size := by rw [nth_set_same (xs := (backS s ((isort ltE xs).take k)).1) (i := (((backS s ((isort ltE xs).take k)).1.length : Int) - 1)) (by omega) (by omega)]
     show Code.wp _ _ _ a17 w17
     refine region_St (bf := [0, 0, 3, 7, 15, 0, 63, 127, 255, 511]) (sp := [det _ 76 _, det _ 77 _, det _ 78 _, det _ 79 _, det _ 80 _, det _ 81 _, det _ 82 _, det _ 83 _, det _ 84 _, own _ _ _ 0 7 _]) [io r0, io r1, ib r2] mixed st17 (by kernel_rfl) ⟨r0, r1, r2, trivial⟩
      ⟨Ob.d fun c => r_move rfl (c.p e7),
      Ob.d fun c => r_move rfl (c.p e14),
      Ob.d fun c => r_indexAddr rfl Try.underlying22 Try.sizeOf45 (c.n 0 rfl) r0.isSl (c.n 1 rfl) (by first | omega | (simp only [List.length_append, Array.length_toList, ByteArray.size_data, ByteArray.size_extract, List.length_set, ByteArray.size_append]; omega)) (by first | omega | (simp only [List.length_append, Array.length_toList, ByteArray.size_data, ByteArray.size_extract, List.length_set, ByteArray.size_append]; omega)),
      Ob.d fun c => r_fieldAddr rfl Try.underlying45 rfl rfl Try.sizeOf9 (c.n 2 rfl),
      Ob.d fun c => r_load1 rfl Try.isAgg9 (c.n 3 rfl) (((c.io 0 rfl).1.sl).elem (j := 2) (nth_some (i := (((backS s ((isort ltE xs).take k)).1).length : Int) - 1) (by first | omega | (simp only [List.length_append, Array.length_toList, ByteArray.size_data, ByteArray.size_extract, List.length_set, ByteArray.size_append]; omega)) (by first | omega | (simp only [List.length_append, Array.length_toList, ByteArray.size_data, ByteArray.size_extract, List.length_set, ByteArray.size_append]; omega))) rfl),
      Ob.d fun c => r_move rfl (c.p e13),
      Ob.d fun c => r_sadd rfl (c.n 4 rfl) (c.n 5 rfl) (by first | omega | (simp only [List.length_append, Array.length_toList, ByteArray.size_data, ByteArray.size_extract, List.length_set, ByteArray.size_append]; omega)),
      Ob.d fun c => r_indexAddr rfl Try.underlying22 Try.sizeOf45 (c.n 0 rfl) r0.isSl (c.n 1 rfl) (by first | omega | (simp only [List.length_append, Array.length_toList, ByteArray.size_data, ByteArray.size_extract, List.length_set, ByteArray.size_append]; omega)) (by first | omega | (simp only [List.length_append, Array.length_toList, ByteArray.size_data, ByteArray.size_extract, List.length_set, ByteArray.size_append]; omega)),
      Ob.d fun c => r_fieldAddr rfl Try.underlying45 rfl rfl Try.sizeOf9 (c.n 7 rfl),
      Ob.storeElem (E := EditE) (i := ((((backS s ((isort ltE xs).take k)).1).length : Int) - 1).toNat) (off := 2) (u := (.string (((nth (((backS s ((isort ltE xs).take k)).1).set ((((backS s ((isort ltE xs).take k)).1).length : Int) - 1).toNat ((nth ((backS s ((isort ltE xs).take k)).1) ((((backS s ((isort ltE xs).take k)).1).length : Int) - 1)).1, (nth ((backS s ((isort ltE xs).take k)).1) ((((backS s ((isort ltE xs).take k)).1).length : Int) - 1)).2.1 + (((nth (isort ltE xs) ((k : Int))).2.2).size : Int), (nth ((backS s ((isort ltE xs).take k)).1) ((((backS s ((isort ltE xs).take k)).1).length : Int) - 1)).2.2)) ((((backS s ((isort ltE xs).take k)).1).length : Int) - 1)).2.2) ++ (s.extract ((nth (isort ltE xs) ((k : Int))).1).toNat ((nth (isort ltE xs) ((k : Int))).2.1).toNat)))) (x := nth (((backS s ((isort ltE xs).take k)).1).set ((((backS s ((isort ltE xs).take k)).1).length : Int) - 1).toNat ((nth ((backS s ((isort ltE xs).take k)).1) ((((backS s ((isort ltE xs).take k)).1).length : Int) - 1)).1, (nth ((backS s ((isort ltE xs).take k)).1) ((((backS s ((isort ltE xs).take k)).1).length : Int) - 1)).2.1 + (((nth (isort ltE xs) ((k : Int))).2.2).size : Int), (nth ((backS s ((isort ltE xs).take k)).1) ((((backS s ((isort ltE xs).take k)).1).length : Int) - 1)).2.2)) ((((backS s ((isort ltE xs).take k)).1).length : Int) - 1)) (x' := ((nth (((backS s ((isort ltE xs).take k)).1).set ((((backS s ((isort ltE xs).take k)).1).length : Int) - 1).toNat ((nth ((backS s ((isort ltE xs).take k)).1) ((((backS s ((isort ltE xs).take k)).1).length : Int) - 1)).1, (nth ((backS s ((isort ltE xs).take k)).1) ((((backS s ((isort ltE xs).take k)).1).length : Int) - 1)).2.1 + (((nth (isort ltE xs) ((k : Int))).2.2).size : Int), (nth ((backS s ((isort ltE xs).take k)).1) ((((backS s ((isort ltE xs).take k)).1).length : Int) - 1)).2.2)) ((((backS s ((isort ltE xs).take k)).1).length : Int) - 1)).1, (nth (((backS s ((isort ltE xs).take k)).1).set ((((backS s ((isort ltE xs).take k)).1).length : Int) - 1).toNat ((nth ((backS s ((isort ltE xs).take k)).1) ((((backS s ((isort ltE xs).take k)).1).length : Int) - 1)).1, (nth ((backS s ((isort ltE xs).take k)).1) ((((backS s ((isort ltE xs).take k)).1).length : Int) - 1)).2.1 + (((nth (isort ltE xs) ((k : Int))).2.2).size : Int), (nth ((backS s ((isort ltE xs).take k)).1) ((((backS s ((isort ltE xs).take k)).1).length : Int) - 1)).2.2)) ((((backS s ((isort ltE xs).take k)).1).length : Int) - 1)).2.1, ((nth (((backS s ((isort ltE xs).take k)).1).set ((((backS s ((isort ltE xs).take k)).1).length : Int) - 1).toNat ((nth ((backS s ((isort ltE xs).take k)).1) ((((backS s ((isort ltE xs).take k)).1).length : Int) - 1)).1, (nth ((backS s ((isort ltE xs).take k)).1) ((((backS s ((isort ltE xs).take k)).1).length : Int) - 1)).2.1 + (((nth (isort ltE xs) ((k : Int))).2.2).size : Int), (nth ((backS s ((isort ltE xs).take k)).1) ((((backS s ((isort ltE xs).take k)).1).length : Int) - 1)).2.2)) ((((backS s ((isort ltE xs).take k)).1).length : Int) - 1)).2.2) ++ (s.extract ((nth (isort ltE xs) ((k : Int))).1).toNat ((nth (isort ltE xs) ((k : Int))).2.1).toNat))) rfl rfl rfl rfl Try.sizeOf3 (nth_some (by first | omega | (simp only [List.length_append, Array.length_toList, ByteArray.size_data, ByteArray.size_extract, List.length_set, ByteArray.size_append]; omega)) (by (try simp only [List.length_set]); omega)) (Nat.le_of_ble_eq_true rfl) (by simp [Value.cells, Value.oneCell']) rfl (fun _ a_ _ _ c => ⟨c.ip 0 rfl e7, c.ad (c.n 8 rfl) e7 (by rw [add_add]; rfl), (c.n 6 rfl)⟩), trivial⟩ ?_
     intro a18 w18 τ18 st18 f18
     obtain ⟨e0, e4, e5, e7, e8, e9, e11, e12, e13, e14, e23, e24, e25, e26, e62, -⟩ := f18.ks [(0, _), (4, _), (5, _), (7, _), (8, _), (9, _), (11, _), (12, _), (13, _), (14, _), (23, _), (24, _), (25, _), (26, _), (62, _)] ⟨e0, e4, e5, e7, e8, e9, e11, e12, e13, e14, e23, e24, e25, e26, e62, trivial⟩
     replace r0 : ownR EditE 45 ((((backS s ((isort ltE xs).take k)).1).set ((((backS s ((isort ltE xs).take k)).1).length : Int) - 1).toNat ((nth ((backS s ((isort ltE xs).take k)).1) ((((backS s ((isort ltE xs).take k)).1).length : Int) - 1)).1, (nth ((backS s ((isort ltE xs).take k)).1) ((((backS s ((isort ltE xs).take k)).1).length : Int) - 1)).2.1 + (((nth (isort ltE xs) ((k : Int))).2.2).size : Int), (nth ((backS s ((isort ltE xs).take k)).1) ((((backS s ((isort ltE xs).take k)).1).length : Int) - 1)).2.2)).set ((((backS s ((isort ltE xs).take k)).1).length : Int) - 1).toNat ((nth (((backS s ((isort ltE xs).take k)).1).set ((((backS s ((isort ltE xs).take k)).1).length : Int) - 1).toNat ((nth ((backS s ((isort ltE xs).take k)).1) ((((backS s ((isort ltE xs).take k)).1).length : Int) - 1)).1, (nth ((backS s ((isort ltE xs).take k)).1) ((((backS s ((isort ltE xs).take k)).1).length : Int) - 1)).2.1 + (((nth (isort ltE xs) ((k : Int))).2.2).size : Int), (nth ((backS s ((isort ltE xs).take k)).1) ((((backS s ((isort ltE xs).take k)).1).length : Int) - 1)).2.2)) ((((backS s ((isort ltE xs).take k)).1).length : Int) - 1)).1, (nth (((backS s ((isort ltE xs).take k)).1).set ((((backS s ((isort ltE xs).take k)).1).length : Int) - 1).toNat ((nth ((backS s ((isort ltE xs).take k)).1) ((((backS s ((isort ltE xs).take k)).1).length : Int) - 1)).1, (nth ((backS s ((isort ltE xs).take k)).1) ((((backS s ((isort ltE xs).take k)).1).length : Int) - 1)).2.1 + (((nth (isort ltE xs) ((k : Int))).2.2).size : Int), (nth ((backS s ((isort ltE xs).take k)).1) ((((backS s ((isort ltE xs).take k)).1).length : Int) - 1)).2.2)) ((((backS s ((isort ltE xs).take k)).1).length : Int) - 1)).2.1, ((nth (((backS s ((isort ltE xs).take k)).1).set ((((backS s ((isort ltE xs).take k)).1).length : Int) - 1).toNat ((nth ((backS s ((isort ltE xs).take k)).1) ((((backS s ((isort ltE xs).take k)).1).length : Int) - 1)).1, (nth ((backS s ((isort ltE xs).take k)).1) ((((backS s ((isort ltE xs).take k)).1).length : Int) - 1)).2.1 + (((nth (isort ltE xs) ((k : Int))).2.2).size : Int), (nth ((backS s ((isort ltE xs).take k)).1) ((((backS s ((isort ltE xs).take k)).1).length : Int) - 1)).2.2)) ((((backS s ((isort ltE xs).take k)).1).length : Int) - 1)).2.2) ++ (s.extract ((nth (isort ltE xs) ((k : Int))).1).toNat ((nth (isort ltE xs) ((k : Int))).2.1).toNat))) (τ18 0) u w18 := f18.ro 9 e7 rfl
     replace r1 := f18.io 1 rfl
     replace r2 := f18.ib 2 rfl
     clear f18
     replace r0 := r0.cast (show (backS s ((isort ltE xs).take k)).1.set (((backS s ((isort ltE xs).take k)).1.length : Int) - 1).toNat ((nth (backS s ((isort ltE xs).take k)).1 (((backS s ((isort ltE xs).take k)).1.length : Int) - 1)).1, (nth (backS s ((isort ltE xs).take k)).1 (((backS s ((isort ltE xs).take k)).1.length : Int) - 1)).2.1 + ((nth (isort ltE xs) (k : Int)).2.2.size : Int), (nth (backS s ((isort ltE xs).take k)).1 (((backS s ((isort ltE xs).take k)).1.length : Int) - 1)).2.2 ++ s.extract (nth (isort ltE xs) (k : Int)).1.toNat (nth (isort ltE xs) (k : Int)).2.1.toNat) = (((backS s ((isort ltE xs).take k)).1).set ((((backS s ((isort ltE xs).take k)).1).length : Int) - 1).toNat ((nth ((backS s ((isort ltE xs).take k)).1) ((((backS s ((isort ltE xs).take k)).1).length : Int) - 1)).1, (nth ((backS s ((isort ltE xs).take k)).1) ((((backS s ((isort ltE xs).take k)).1).length : Int) - 1)).2.1 + (((nth (isort ltE xs) ((k : Int))).2.2).size : Int), (nth ((backS s ((isort ltE xs).take k)).1) ((((backS s ((isort ltE xs).take k)).1).length : Int) - 1)).2.2)).set ((((backS s ((isort ltE xs).take k)).1).length : Int) - 1).toNat ((nth (((backS s ((isort ltE xs).take k)).1).set ((((backS s ((isort ltE xs).take k)).1).length : Int) - 1).toNat ((nth ((backS s ((isort ltE xs).take k)).1) ((((backS s ((isort ltE xs).take k)).1).length : Int) - 1)).1, (nth ((backS s ((isort ltE xs).take k)).1) ((((backS s ((isort ltE xs).take k)).1).length : Int) - 1)).2.1 + (((nth (isort ltE xs) ((k : Int))).2.2).size : Int), (nth ((backS s ((isort ltE xs).take k)).1) ((((backS s ((isort ltE xs).take k)).1).length : Int) - 1)).2.2)) ((((backS s ((isort ltE xs).take k)).1).length : Int) - 1)).1, (nth (((backS s ((isort ltE xs).take k)).1).set ((((backS s ((isort ltE xs).take k)).1).length : Int) - 1).toNat ((nth ((backS s ((isort ltE xs).take k)).1) ((((backS s ((isort ltE xs).take k)).1).length : Int) - 1)).1, (nth ((backS s ((isort ltE xs).take k)).1) ((((backS s ((isort ltE xs).take k)).1).length : Int) - 1)).2.1 + (((nth (isort ltE xs) ((k : Int))).2.2).size : Int), (nth ((backS s ((isort ltE xs).take k)).1) ((((backS s ((isort ltE xs).take k)).1).length : Int) - 1)).2.2)) ((((backS s ((isort ltE xs).take k)).1).length : Int) - 1)).2.1, ((nth (((backS s ((isort ltE xs).take k)).1).set ((((backS s ((isort ltE xs).take k)).1).length : Int) - 1).toNat ((nth ((backS s ((isort ltE xs).take k)).1) ((((backS s ((isort ltE xs).take k)).1).length : Int) - 1)).1, (nth ((backS s ((isort ltE xs).take k)).1) ((((backS s ((isort ltE xs).take k)).1).length : Int) - 1)).2.1 + (((nth (isort ltE xs) ((k : Int))).2.2).size : Int), (nth ((backS s ((isort ltE xs).take k)).1) ((((backS s ((isort ltE xs).take k)).1).length : Int) - 1)).2.2)) ((((backS s ((isort ltE xs).take k)).1).length : Int) - 1)).2.2) ++ (s.extract ((nth (isort ltE xs) ((k : Int))).1).toNat ((nth (isort ltE xs) ((k : Int))).2.1).toNat)) from by rw [nth_set_same (xs := (backS s ((isort ltE xs).take k)).1) (i := (((backS s ((isort ltE xs).take k)).1.length : Int) - 1)) (by omega) (by omega), List.set_set])
     show Code.wp _ _ _ a18 w18
     refine region_St (bf := [0, 1, 3, 7]) (sp := [det _ 97 _, det _ 98 _, det _ 99 _, det _ 9 _]) [io r0, io r1, ib r2] mixed st18 (by kernel_rfl) ⟨r0, r1, r2, trivial⟩
      ⟨Ob.d fun c => r_fieldAddr rfl Try.underlying45 rfl rfl Try.sizeOf43 ((c.p e11).trans r2.ptr),
      Ob.d fun c => r_fieldAddr rfl Try.underlying43 rfl rfl Try.sizeOf3 (c.n 0 rfl),
      Ob.d fun c => r_load1 rfl Try.isAgg3 (c.n 1 rfl) (by rw [add_add]; exact (c.ib 2 rfl).cell (j := 1) rfl),
      Ob.d fun c => r_assign rfl (c.n 2 rfl), trivial⟩ ?_
     intro a19 w19 τ19 st19 f19
     obtain ⟨e0, e4, e5, e7, e8, e11, e12, e13, e14, e23, e24, e25, e26, e62, -⟩ := f19.ks [(0, _), (4, _), (5, _), (7, _), (8, _), (11, _), (12, _), (13, _), (14, _), (23, _), (24, _), (25, _), (26, _), (62, _)] ⟨e0, e4, e5, e7, e8, e11, e12, e13, e14, e23, e24, e25, e26, e62, trivial⟩
     have e9 : get a19 9 = (.int .i64 ((nth (isort ltE xs) ((k : Int))).2.1)) := f19.v 3 rfl
     replace r0 := f19.io 0 rfl
     replace r1 := f19.io 1 rfl
     replace r2 := f19.ib 2 rfl
     clear f19
     show _
     show Code.wp _ _ _ a19 w19
     refine region_St (bf := [0, 1]) (sp := [det _ 100 _, det _ 25 _]) [io r0, io r1, ib r2] mixed st19 (by kernel_rfl) ⟨r0, r1, r2, trivial⟩
      ⟨Ob.d fun c => r_add rfl (c.p e25) rfl (by first | omega | (simp only [List.length_append, Array.length_toList, ByteArray.size_data, ByteArray.size_extract, List.length_set, ByteArray.size_append]; omega)),
      Ob.d fun c => r_move rfl (c.n 0 rfl), trivial⟩ ?_
     intro a20 w20 τ20 st20 f20
     obtain ⟨e0, e4, e5, e7, e8, e9, e11, e12, e13, e14, e23, e24, e26, e62, -⟩ := f20.ks [(0, _), (4, _), (5, _), (7, _), (8, _), (9, _), (11, _), (12, _), (13, _), (14, _), (23, _), (24, _), (26, _), (62, _)] ⟨e0, e4, e5, e7, e8, e9, e11, e12, e13, e14, e23, e24, e26, e62, trivial⟩
     have e25 : get a20 25 = (.int .i64 ((k : Int) + 1)) := f20.v 1 rfl
     replace r0 := f20.io 0 rfl
     replace r1 := f20.io 1 rfl
     replace r2 := f20.ib 2 rfl
     clear f20
     refine ⟨⟨k + 1, u, τ20, ?_, st20, e7, (e8.trans (int_eq (by first | omega | rfl | (rw [back_by (by omega)]; first | omega | (rw [hlw (by omega)])) | exact (back_last (by omega)).symm))), (e9.trans (int_eq (by first | omega | rfl | (rw [back_by (by omega)]; first | omega | (rw [hlw (by omega)])) | exact (back_last (by omega)).symm))), (e25.trans (int_eq (by first | omega | rfl | (rw [back_by (by omega)]; first | omega | (rw [hlw (by omega)])) | exact (back_last (by omega)).symm))), e0, e4, e5, e23, e24, ?_, r1⟩, ?_⟩
     · omega
     · exact r0.cast (by first | exact back_hit (by omega) (by assumption) | exact back_miss (by omega) (by assumption))
     · simp only [m25, e25, intOf]; omega
   have hd3 := hc3; try simp only [Bool.and_eq_false_iff, decide_eq_false_iff_not, Int.not_le] at hd3
   refine region_St (bf := [0, 0, 0, 0, 8, 24, 60, 126, 0, 510, 1022, 2047, 4095]) (sp := [det _ 85 _, det _ 86 _, det _ 87 _, det _ 88 _, det _ 89 _, det _ 90 _, det _ 91 _, det _ 92 _, det _ 93 _, det _ 94 _, own EditE 45 _ 3 95 ([((nth (isort ltE xs) ((k : Int))).1 + ((backS s ((isort ltE xs).take k)).2.1), (nth (isort ltE xs) ((k : Int))).1 + ((backS s ((isort ltE xs).take k)).2.1) + (((nth (isort ltE xs) ((k : Int))).2.2).size : Int), s.extract ((nth (isort ltE xs) ((k : Int))).1).toNat ((nth (isort ltE xs) ((k : Int))).2.1).toNat)]), own _ _ _ 0 96 _, own _ _ _ 0 7 _]) [io r0, io r1, ib r2] mixed st16 (by kernel_rfl) ⟨r0, r1, r2, trivial⟩
    ⟨Ob.d fun c => r_move rfl (c.p e7),
    Ob.d fun c => r_move rfl (c.p e12),
    Ob.d fun c => r_move rfl (c.p e12),
    Ob.d fun c => r_fieldAddr rfl Try.underlying45 rfl rfl Try.sizeOf9 ((c.p e11).trans r2.ptr),
    Ob.d fun c => r_load1 rfl Try.isAgg9 (c.n 3 rfl) ((c.ib 2 rfl).cell (j := 2) rfl),
    Ob.d fun c => r_lenS rfl Try.underlying9 (c.n 4 rfl),
    Ob.d fun c => r_add rfl (c.n 2 rfl) (c.n 5 rfl) (by first | omega | (simp only [List.length_append, Array.length_toList, ByteArray.size_data, ByteArray.size_extract, List.length_set, ByteArray.size_append]; omega)),
    Ob.d fun c => r_build (cells := #[(.int .i64 ((nth (isort ltE xs) ((k : Int))).1 + ((backS s ((isort ltE xs).take k)).2.1))), (.int .i64 ((nth (isort ltE xs) ((k : Int))).1 + ((backS s ((isort ltE xs).take k)).2.1) + (((nth (isort ltE xs) ((k : Int))).2.2).size : Int)))]) rfl Try.underlying43 Try.zeroValue43 (pl := #[(0, 1), (1, 1)]) (fun w_ => by simp [Try.sizeOf3]) (fill2 (c.n 1 rfl) (c.n 6 rfl) rfl),
    Ob.d fun c => r_move rfl (c.p e13),
    Ob.d fun c => r_build (cells := #[(.int .i64 ((nth (isort ltE xs) ((k : Int))).1 + ((backS s ((isort ltE xs).take k)).2.1))), (.int .i64 ((nth (isort ltE xs) ((k : Int))).1 + ((backS s ((isort ltE xs).take k)).2.1) + (((nth (isort ltE xs) ((k : Int))).2.2).size : Int))), (.string (s.extract ((nth (isort ltE xs) ((k : Int))).1).toNat ((nth (isort ltE xs) ((k : Int))).2.1).toNat))]) rfl Try.underlying45 Try.zeroValue45 (pl := #[(0, 2), (2, 1)]) (fun w_ => by simp [Try.sizeOf43, Try.sizeOf9]) (fill2 (c.n 7 rfl) (c.n 8 rfl) rfl),
    Ob.buildSlice (cells := #[(.int .i64 ((nth (isort ltE xs) ((k : Int))).1 + ((backS s ((isort ltE xs).take k)).2.1))), (.int .i64 ((nth (isort ltE xs) ((k : Int))).1 + ((backS s ((isort ltE xs).take k)).2.1) + (((nth (isort ltE xs) ((k : Int))).2.2).size : Int))), (.string (s.extract ((nth (isort ltE xs) ((k : Int))).1).toNat ((nth (isort ltE xs) ((k : Int))).2.1).toNat))]) rfl rfl rfl rfl Try.underlying22 Try.sizeOf45 Try.zeroValue45 rfl (by decide) (by decide) (fun _ _ _ _ c => fill1 (c.n 9 rfl) (by kernel_rfl)) rfl,
    Ob.append (t0 := 7) rfl rfl rfl rfl Try.underlying22 (i := Try.t45) rfl rfl rfl rfl (by simp only [maxLen]; (try simp); omega) (by show _ * 32 ≤ _; (try simp); omega) (fun _ _ _ _ c => ⟨c.ip 0 rfl e7, c.sm (c.n 0 rfl) e7, ⟨_, rfl, (c.ro 10 rfl).1.sl⟩⟩),
    Ob.moveT (t0 := 96) rfl rfl rfl rfl rfl (.inr rfl) (fun _ _ _ _ c => ⟨c.ro 11 rfl, rfl⟩), trivial⟩ ?_
   intro a21 w21 τ21 st21 f21
   obtain ⟨b21x95, e95⟩ : ∃ b, get a21 95 = b := ⟨_, rfl⟩
   obtain ⟨b21x7, e7⟩ : ∃ b, get a21 7 = b := ⟨_, rfl⟩
   obtain ⟨e0, e4, e5, e8, e9, e11, e12, e13, e14, e23, e24, e25, e26, e62, -⟩ := f21.ks [(0, _), (4, _), (5, _), (8, _), (9, _), (11, _), (12, _), (13, _), (14, _), (23, _), (24, _), (25, _), (26, _), (62, _)] ⟨e0, e4, e5, e8, e9, e11, e12, e13, e14, e23, e24, e25, e26, e62, trivial⟩
   replace r0 : ownR EditE 45 (((backS s ((isort ltE xs).take k)).1) ++ ([((nth (isort ltE xs) ((k : Int))).1 + ((backS s ((isort ltE xs).take k)).2.1), (nth (isort ltE xs) ((k : Int))).1 + ((backS s ((isort ltE xs).take k)).2.1) + (((nth (isort ltE xs) ((k : Int))).2.2).size : Int), s.extract ((nth (isort ltE xs) ((k : Int))).1).toNat ((nth (isort ltE xs) ((k : Int))).2.1).toNat)])) (τ21 0) b21x7 w21 := f21.ro 12 e7 rfl
   replace r1 := f21.io 1 rfl
   replace r2 := f21.ib 2 rfl
   have r3 : ownR EditE 45 ([((nth (isort ltE xs) ((k : Int))).1 + ((backS s ((isort ltE xs).take k)).2.1), (nth (isort ltE xs) ((k : Int))).1 + ((backS s ((isort ltE xs).take k)).2.1) + (((nth (isort ltE xs) ((k : Int))).2.2).size : Int), s.extract ((nth (isort ltE xs) ((k : Int))).1).toNat ((nth (isort ltE xs) ((k : Int))).2.1).toNat)]) (τ21 3) b21x95 w21 := f21.ro 10 e95 rfl
   clear f21
   show Code.wp _ _ _ a21 w21
   refine region_St (bf := [0, 1, 3, 7]) (sp := [det _ 97 _, det _ 98 _, det _ 99 _, det _ 9 _]) [io r0, io r1, ib r2, io r3] mixed st21 (by kernel_rfl) ⟨r0, r1, r2, r3, trivial⟩
    ⟨Ob.d fun c => r_fieldAddr rfl Try.underlying45 rfl rfl Try.sizeOf43 ((c.p e11).trans r2.ptr),
    Ob.d fun c => r_fieldAddr rfl Try.underlying43 rfl rfl Try.sizeOf3 (c.n 0 rfl),
    Ob.d fun c => r_load1 rfl Try.isAgg3 (c.n 1 rfl) (by rw [add_add]; exact (c.ib 2 rfl).cell (j := 1) rfl),
    Ob.d fun c => r_assign rfl (c.n 2 rfl), trivial⟩ ?_
   intro a22 w22 τ22 st22 f22
   obtain ⟨e0, e4, e5, e7, e8, e11, e12, e13, e14, e23, e24, e25, e26, e62, -⟩ := f22.ks [(0, _), (4, _), (5, _), (7, _), (8, _), (11, _), (12, _), (13, _), (14, _), (23, _), (24, _), (25, _), (26, _), (62, _)] ⟨e0, e4, e5, e7, e8, e11, e12, e13, e14, e23, e24, e25, e26, e62, trivial⟩
   have e9 : get a22 9 = (.int .i64 ((nth (isort ltE xs) ((k : Int))).2.1)) := f22.v 3 rfl
   replace r0 := f22.io 0 rfl
   replace r1 := f22.io 1 rfl
   replace r2 := f22.ib 2 rfl
   replace r3 := f22.io 3 rfl
   clear f22
   show _
   show Code.wp _ _ _ a22 w22
   refine region_St (bf := [0, 1]) (sp := [det _ 100 _, det _ 25 _]) [io r0, io r1, ib r2, io r3] mixed st22 (by kernel_rfl) ⟨r0, r1, r2, r3, trivial⟩
    ⟨Ob.d fun c => r_add rfl (c.p e25) rfl (by first | omega | (simp only [List.length_append, Array.length_toList, ByteArray.size_data, ByteArray.size_extract, List.length_set, ByteArray.size_append]; omega)),
    Ob.d fun c => r_move rfl (c.n 0 rfl), trivial⟩ ?_
   intro a23 w23 τ23 st23 f23
   obtain ⟨e0, e4, e5, e7, e8, e9, e11, e12, e13, e14, e23, e24, e26, e62, -⟩ := f23.ks [(0, _), (4, _), (5, _), (7, _), (8, _), (9, _), (11, _), (12, _), (13, _), (14, _), (23, _), (24, _), (26, _), (62, _)] ⟨e0, e4, e5, e7, e8, e9, e11, e12, e13, e14, e23, e24, e26, e62, trivial⟩
   have e25 : get a23 25 = (.int .i64 ((k : Int) + 1)) := f23.v 1 rfl
   replace r0 := f23.io 0 rfl
   replace r1 := f23.io 1 rfl
   replace r2 := f23.ib 2 rfl
   replace r3 := f23.io 3 rfl
   clear f23
   refine ⟨⟨k + 1, b21x7, τ23, ?_, st23, e7, (e8.trans (int_eq (by first | omega | rfl | (rw [back_by (by omega)]; first | omega | (rw [hlw (by omega)])) | exact (back_last (by omega)).symm))), (e9.trans (int_eq (by first | omega | rfl | (rw [back_by (by omega)]; first | omega | (rw [hlw (by omega)])) | exact (back_last (by omega)).symm))), (e25.trans (int_eq (by first | omega | rfl | (rw [back_by (by omega)]; first | omega | (rw [hlw (by omega)])) | exact (back_last (by omega)).symm))), e0, e4, e5, e23, e24, ?_, r1⟩, ?_⟩
   · omega
   · exact r0.cast (by first | exact back_hit (by omega) (by assumption) | exact back_miss (by omega) (by assumption))
   · simp only [m25, e25, intOf]; omega
 try simp only [decide_eq_false_iff_not, Int.not_lt] at hc2
 refine wp_exit ?_
 repeat (with_reducible refine then_exit ?_)
 refine exit_here ?_
 show Code.wp _ _ _ a10 w10
 refine wp_seq ?_
 refine region_St (bf := [0, 1, 3]) (sp := [det _ 101 _, det _ 4 _, det _ 5 _]) [io r0, io r1] mixed st10 (by kernel_rfl) ⟨r0, r1, trivial⟩
  ⟨Ob.d fun c => r_move rfl (c.p e7),
  Ob.d fun c => r_assign rfl (c.n 0 rfl),
  Ob.d fun c => r_assign rfl rfl, trivial⟩ ?_
 intro a24 w24 τ24 st24 f24
 have e4 : get a24 4 = u := f24.v 1 rfl
 have e5 : get a24 5 = (.int .i64 (0)) := f24.v 2 rfl
 replace r0 := f24.io 0 rfl
 clear f24
 show Code.wp _ _ _ a24 w24
 refine wp_ret ?_
 repeat (first | with_reducible refine then_ret ?_ | with_reducible refine block_ret ?_)
 refine ret2 (fn := Try.f17) rfl st24.defers e4 e5 ?_
 have e2_ : mayEd (s.size : Int) xs = 0 := by assumption
 have e1_ : backF s xs = (backS s ((isort ltE xs).take k)).1 := by rw [backF, if_pos e2_, List.take_of_length_le (by omega)]; rfl
 rw [e1_, e2_]
 exact ⟨_, rfl, st24.ext0, r0.1, fun g_ h_ => (st24.bnd _ g_ (r0.2 g_ h_)).1⟩

set_option maxRecDepth 100000 in
set_option maxHeartbeats 4000000 in
theorem refBackE_c (s : ByteArray) (v : Value) (xs : List (Int × Int × ByteArray)) (w : World) (hS : SlT EditE w v xs) (hs : s.size ≤ 1000000) (hz : sizes xs ≤ 1000000) (hbig : xs.length ≤ 1000000) : Calls Try.prog 18 #[(.string (s)), v] w (fun e w' => ∃ v', e = .returned (.tuple #[v', .int .i64 (mayEd (s.size : Int) xs)]) ∧ Ext none' w w' ∧ NewT EditE 45 w w' v' (backF s xs)) := by
 refine enter (n := 138) Try.func18 rfl rfl (Nat.le_of_ble_eq_true rfl) ?_
 intro a0 τ0 ha st0
 have e0 : get a0 0 = (.string (s)) := ha 0 _ rfl
 have e1 : get a0 1 = v := ha 1 _ rfl
 clear ha
 have hle := hS.le
 have hil := isort_length (lt := ltE) xs
 refine wp_seq ?_
 refine region_St (bf := [0, 1]) (sp := [det _ 4 _, det _ 5 _]) [] mixed st0 (by kernel_rfl) trivial
  ⟨Ob.d fun c => r_assign rfl rfl,
  Ob.d fun c => r_assign rfl rfl, trivial⟩ ?_
 intro a1 w1 τ1 st1 f1
 obtain ⟨e0, e1, -⟩ := f1.ks [(0, _), (1, _)] ⟨e0, e1, trivial⟩
 have e4 : get a1 4 = (.slice none 0 0) := f1.v 0 rfl
 have e5 : get a1 5 = (.int .i64 (0)) := f1.v 1 rfl
 clear f1
 show Code.wp _ _ _ a1 w1
 refine wp_seq ?_
 refine region_St (bf := [0, 1, 0, 7, 15]) (sp := [det _ 14 _, det _ 15 _, det _ 16 _, det _ 17 _, det _ 6 _]) [] mixed st1 (by kernel_rfl) trivial
  ⟨Ob.d fun c => r_move rfl (c.p e0),
  Ob.d fun c => r_lenS rfl Try.underlying9 (c.n 0 rfl),
  Ob.d fun c => r_move rfl (c.p e1),
  Ob.c fun c => ⟨_, _, (e_call2 rfl rfl Try.call20 (c.n 1 rfl) (c.n 2 rfl)), refMayE_c (s.size : Int) v xs _ (hS.at (st1.ext.trans c.J.ext)) (by first | omega | (simp only [List.length_append, Array.length_toList, ByteArray.size_data, ByteArray.size_extract, List.length_set, ByteArray.size_append]; omega))⟩,
  Ob.d fun c => r_assign rfl (c.n 3 rfl), trivial⟩ ?_
 intro a2 w2 τ2 st2 f2
 obtain ⟨e0, e1, e4, e5, -⟩ := f2.ks [(0, _), (1, _), (4, _), (5, _)] ⟨e0, e1, e4, e5, trivial⟩
 have e6 : get a2 6 = (.int .i64 (mayEd (s.size : Int) xs)) := f2.v 4 rfl
 clear f2
 show Code.wp _ _ _ a2 w2
 refine wp_seq ?_
 refine wp_seq ?_
 refine region_St (bf := [0, 1]) (sp := [det _ 18 _, det _ 19 _]) [] mixed st2 (by kernel_rfl) trivial
  ⟨Ob.d fun c => r_move rfl (c.p e6),
  Ob.d fun c => r_neq rfl (c.n 0 rfl) rfl, trivial⟩ ?_
 intro a3 w3 τ3 st3 f3
 obtain ⟨e0, e1, e4, e5, e6, -⟩ := f3.ks [(0, _), (1, _), (4, _), (5, _), (6, _)] ⟨e0, e1, e4, e5, e6, trivial⟩
 have e19 : get a3 19 = (.bool (!decide (mayEd (s.size : Int) xs = 0))) := f3.v 1 rfl
 clear f3
 show Code.wp _ _ _ a3 w3
 refine wp_cond_split (t := !decide (mayEd (s.size : Int) xs = 0)) e19 (fun hc1 => ?_) (fun hc1 => ?_)
 · try simp only [Bool.not_eq_true', Bool.not_eq_false', decide_eq_true_eq, decide_eq_false_iff_not] at hc1
   refine wp_seq ?_
   refine region_St (bf := [0, 0, 3]) (sp := [det _ 20 _, det _ 4 _, det _ 5 _]) [] mixed st3 (by kernel_rfl) trivial
    ⟨Ob.d fun c => r_move rfl (c.p e6),
    Ob.d fun c => r_assign rfl rfl,
    Ob.d fun c => r_assign rfl (c.n 0 rfl), trivial⟩ ?_
   intro a4 w4 τ4 st4 f4
   obtain ⟨e0, e1, -⟩ := f4.ks [(0, _), (1, _)] ⟨e0, e1, trivial⟩
   have e4 : get a4 4 = (.slice none 0 0) := f4.v 1 rfl
   have e5 : get a4 5 = (.int .i64 (mayEd (s.size : Int) xs)) := f4.v 2 rfl
   clear f4
   show Code.wp _ _ _ a4 w4
   refine wp_ret ?_
   repeat (first | with_reducible refine then_ret ?_ | with_reducible refine block_ret ?_)
   refine ret2 (fn := Try.f18) rfl st4.defers e4 e5 ?_
   have e1_ : backF s xs = [] := by rw [backF, if_neg (by assumption)]
   rw [e1_]
   exact ⟨_, rfl, st4.ext0, OwnT.nil _ _ _, fun g_ h_ => by simp [Value.ownBlock] at h_⟩
 try simp only [Bool.not_eq_true', Bool.not_eq_false', decide_eq_true_eq, decide_eq_false_iff_not] at hc1
 refine wp_skip ?_
 show Code.wp _ _ _ a3 w3
 refine wp_seq ?_
 refine region_St (bf := [0, 1, 3]) (sp := [det _ 21 _, own _ _ _ 1 22 _, own _ _ _ 1 7 _]) [] mixed st3 (by kernel_rfl) trivial
  ⟨Ob.d fun c => r_move rfl (c.p e1),
  Ob.callOwn rfl rfl rfl (fun _ a_ _ _ c => ⟨_, _, (e_call1 rfl rfl Try.call23 (c.n 0 rfl)), refSortE_c v xs _ (hS.at (st3.ext.trans c.J.ext)) (by first | omega | (simp only [List.length_append, Array.length_toList, ByteArray.size_data, ByteArray.size_extract, List.length_set, ByteArray.size_append]; omega))⟩),
  Ob.moveT (t0 := 22) rfl rfl rfl rfl rfl (.inr rfl) (fun _ _ _ _ c => ⟨c.ro 1 rfl, rfl⟩), trivial⟩ ?_
 intro a5 w5 τ5 st5 f5
 obtain ⟨b5x7, e7⟩ : ∃ b, get a5 7 = b := ⟨_, rfl⟩
 obtain ⟨e0, e4, e5, -⟩ := f5.ks [(0, _), (4, _), (5, _)] ⟨e0, e4, e5, trivial⟩
 have r1 : ownR EditE 45 (isort ltE xs) (τ5 1) b5x7 w5 := f5.ro 2 e7 rfl
 clear f5
 have hap := may_ap (n := (s.size : Int)) (es := xs) (by assumption) (by omega)
 have hal := app_small hap hs hz
 show Code.wp _ _ _ a5 w5
 refine wp_seq ?_
 refine region_St (bf := [0]) (sp := [det _ 8 _]) [Ini.any _, io r1] mixed st5 (by kernel_rfl) ⟨trivial, r1, trivial⟩
  ⟨Ob.d fun c => r_assign rfl rfl, trivial⟩ ?_
 intro a6 w6 τ6 st6 f6
 obtain ⟨e0, e4, e5, e7, -⟩ := f6.ks [(0, _), (4, _), (5, _), (7, _)] ⟨e0, e4, e5, e7, trivial⟩
 have e8 : get a6 8 = (.slice none 0 0) := f6.v 0 rfl
 replace r1 := f6.io 1 rfl
 clear f6
 show Code.wp _ _ _ a6 w6
 refine wp_seq ?_
 refine region_St (bf := [0, 1]) (sp := [det _ 9 _, det _ 10 _]) [Ini.any _, io r1] mixed st6 (by kernel_rfl) ⟨trivial, r1, trivial⟩
  ⟨Ob.d fun c => r_assign rfl rfl,
  Ob.d fun c => r_assign rfl rfl, trivial⟩ ?_
 intro a7 w7 τ7 st7 f7
 obtain ⟨e0, e4, e5, e7, e8, -⟩ := f7.ks [(0, _), (4, _), (5, _), (7, _), (8, _)] ⟨e0, e4, e5, e7, e8, trivial⟩
 have e9 : get a7 9 = (.int .i64 (0)) := f7.v 0 rfl
 have e10 : get a7 10 = (.int .i64 ((-1))) := f7.v 1 rfl
 replace r1 := f7.io 1 rfl
 clear f7
 show Code.wp _ _ _ a7 w7
 refine wp_seq ?_
 refine wp_seq ?_
 refine region_St (bf := [0]) (sp := [det _ 11 _]) [Ini.any _, io r1] mixed st7 (by kernel_rfl) ⟨trivial, r1, trivial⟩
  ⟨Ob.d fun c => r_assign rfl rfl, trivial⟩ ?_
 intro a8 w8 τ8 st8 f8
 obtain ⟨e0, e4, e5, e7, e8, e9, e10, -⟩ := f8.ks [(0, _), (4, _), (5, _), (7, _), (8, _), (9, _), (10, _)] ⟨e0, e4, e5, e7, e8, e9, e10, trivial⟩
 have e11 : get a8 11 = (.int .i64 (0)) := f8.v 0 rfl
 replace r1 := f8.io 1 rfl
 clear f8
 show Code.wp _ _ _ a8 w8
 refine wp_block ?_
 refine wp_loop (fun a_ w_ => ∃ (k : Nat) (u : Value) (τ : Nat → Foot), (k ≤ (isort ltE xs).length) ∧
      St (Nw w) w 138 a_ w_ τ ∧
      get a_ 8 = u ∧
      get a_ 9 = (.int .i64 ((backS s ((isort ltE xs).take k)).2.1)) ∧
      get a_ 10 = (.int .i64 ((backS s ((isort ltE xs).take k)).2.2)) ∧
      get a_ 11 = (.int .i64 ((k : Int))) ∧
      get a_ 0 = (.string (s)) ∧
      get a_ 4 = (.slice none 0 0) ∧
      get a_ 5 = (.int .i64 (0)) ∧
      get a_ 7 = b5x7 ∧
      ownR EditE 45 ((backS s ((isort ltE xs).take k)).1) (τ 0) u w_ ∧
      ownR EditE 45 (isort ltE xs) (τ 1) b5x7 w_) (fun a_ _ => (isort ltE xs).length - (intOf (get a_ 11)).toNat) ?_ ?_
 · refine ⟨0, (.slice none 0 0), τ8, ?_, st8, e8, (e9.trans (int_eq (by first | omega | rfl | (rw [back_by (by omega)]; first | omega | (rw [hlw (by omega)])) | exact (back_last (by omega)).symm))), (e10.trans (int_eq (by first | omega | rfl | (rw [back_by (by omega)]; first | omega | (rw [hlw (by omega)])) | exact (back_last (by omega)).symm))), (e11.trans (int_eq (by first | omega | rfl | (rw [back_by (by omega)]; first | omega | (rw [hlw (by omega)])) | exact (back_last (by omega)).symm))), e0, e4, e5, e7, ?_, r1⟩
   · omega
   · exact ownR.nil _ _ _ _
 intro a9 w9 hI
 obtain ⟨k, u, τ9, q0, st9, e8, e9, e10, e11, e0, e4, e5, e7, r0, r1⟩ := hI
 have hk1 := ap_at3 (k := k) (L := (isort ltE xs)) (ap_drop hap)
 have hsz := size_at (k := k) (isort_perm (lt := ltE) xs)
 have hbg := back_grown (k := k) hap hs hz
 have hbl := backS_take (s := s) (L := (isort ltE xs)) (k := k)
 have hba := back_at (k := k) (i := ((backS s ((isort ltE xs).take k)).1.length : Int) - 1) hap hs hz
 have hlw : k < (isort ltE xs).length → lenW ((nth (isort ltE xs) (k : Int)).1, (nth (isort ltE xs) (k : Int)).2.1) = (nth (isort ltE xs) (k : Int)).2.1 - (nth (isort ltE xs) (k : Int)).1 := fun h_ => by have := hk1 h_; unfold lenW; exact w_in (by simp only []; omega)
 have m11 := e11
 refine wp_seq ?_
 refine wp_seq ?_
 refine region_St (bf := [0, 0, 2, 7]) (sp := [det _ 23 _, det _ 24 _, det _ 25 _, det _ 26 _]) [io r0, io r1] mixed st9 (by kernel_rfl) ⟨r0, r1, trivial⟩
  ⟨Ob.d fun c => r_move rfl (c.p e11),
  Ob.d fun c => r_move rfl (c.p e7),
  Ob.d fun c => r_len rfl Try.underlying22 (c.n 1 rfl) r1.isSl,
  Ob.d fun c => r_lss rfl (c.n 0 rfl) (c.n 2 rfl), trivial⟩ ?_
 intro a10 w10 τ10 st10 f10
 obtain ⟨e0, e4, e5, e7, e8, e9, e10, e11, -⟩ := f10.ks [(0, _), (4, _), (5, _), (7, _), (8, _), (9, _), (10, _), (11, _)] ⟨e0, e4, e5, e7, e8, e9, e10, e11, trivial⟩
 have e26 : get a10 26 = (.bool (decide ((k : Int) < ((isort ltE xs).length : Int)))) := f10.v 3 rfl
 replace r0 := f10.io 0 rfl
 replace r1 := f10.io 1 rfl
 clear f10
 show Code.wp _ _ _ a10 w10
 refine wp_cond_split (t := decide ((k : Int) < ((isort ltE xs).length : Int))) e26 (fun hc2 => ?_) (fun hc2 => ?_)
 · try simp only [decide_eq_true_eq] at hc2
   refine wp_skip ?_
   show Code.wp _ _ _ a10 w10
   refine wp_seq ?_
   refine wp_block ?_
   refine wp_seq ?_
   refine region_St (bf := [0, 0, 3, 7, 15, 31, 0, 127, 0, 0, 768, 1792, 3840, 7936, 0, 32512, 0, 0, 196608, 458752, 983040, 2031616, 4194048, 8388607, 0, 0, 0, 100663296, 234881024, 503316480, 1040187392, 0, 0, 6442450944, 15032385536, 32212254720, 66571993088, 137422176256, 274877906943, 0, 1099511627775]) (sp := [det _ 29 _, det _ 30 _, det _ 31 _, det _ 32 _, det _ 33 _, det _ 34 _, det _ 35 _, det _ 36 _, det _ 37 _, det _ 38 _, det _ 39 _, det _ 40 _, det _ 41 _, det _ 42 _, det _ 43 _, det _ 44 _, det _ 45 _, det _ 46 _, det _ 47 _, det _ 48 _, det _ 49 _, det _ 50 _, det _ 51 _, det _ 52 _, det _ 53 _, det _ 54 _, det _ 55 _, det _ 56 _, det _ 57 _, det _ 58 _, det _ 59 _, det _ 60 _, det _ 61 _, det _ 62 _, det _ 63 _, det _ 64 _, det _ 65 _, det _ 66 _, det _ 67 _, box _ _ 2 12 [(.int .i64 (0)), (.int .i64 (0)), (.string ((⟨#[]⟩ : ByteArray)))], box _ _ 2 12 [(.int .i64 ((nth (isort ltE xs) ((k : Int))).1 + ((backS s ((isort ltE xs).take k)).2.1))), (.int .i64 ((nth (isort ltE xs) ((k : Int))).1 + ((backS s ((isort ltE xs).take k)).2.1) + (((nth (isort ltE xs) ((k : Int))).2.2).size : Int))), (.string (s.extract ((nth (isort ltE xs) ((k : Int))).1).toNat ((nth (isort ltE xs) ((k : Int))).2.1).toNat))]]) [io r0, io r1] mixed st10 (by kernel_rfl) ⟨r0, r1, trivial⟩
    ⟨Ob.d fun c => r_move rfl (c.p e7),
    Ob.d fun c => r_move rfl (c.p e11),
    Ob.d fun c => r_indexAddr rfl Try.underlying22 Try.sizeOf45 (c.n 0 rfl) r1.isSl (c.n 1 rfl) (by first | omega | (simp only [List.length_append, Array.length_toList, ByteArray.size_data, ByteArray.size_extract, List.length_set, ByteArray.size_append]; omega)) (by first | omega | (simp only [List.length_append, Array.length_toList, ByteArray.size_data, ByteArray.size_extract, List.length_set, ByteArray.size_append]; omega)),
    Ob.d fun c => r_fieldAddr rfl Try.underlying45 rfl rfl Try.sizeOf43 (c.n 2 rfl),
    Ob.d fun c => r_fieldAddr rfl Try.underlying43 rfl rfl Try.sizeOf3 (c.n 3 rfl),
    Ob.d fun c => r_load1 rfl Try.isAgg3 (c.n 4 rfl) (by have h_ := ((c.io 1 rfl).1.sl).elem (j := 0) (nth_some (i := (k : Int)) (by first | omega | (simp only [List.length_append, Array.length_toList, ByteArray.size_data, ByteArray.size_extract, List.length_set, ByteArray.size_append]; omega)) (by first | omega | (simp only [List.length_append, Array.length_toList, ByteArray.size_data, ByteArray.size_extract, List.length_set, ByteArray.size_append]; omega))) rfl; rw [add_add] at h_; rw [add_add, add_add]; exact h_),
    Ob.d fun c => r_move rfl (c.p e9),
    Ob.d fun c => r_add rfl (c.n 5 rfl) (c.n 6 rfl) (by first | omega | (simp only [List.length_append, Array.length_toList, ByteArray.size_data, ByteArray.size_extract, List.length_set, ByteArray.size_append]; omega)),
    Ob.d fun c => r_move rfl (c.p e7),
    Ob.d fun c => r_move rfl (c.p e11),
    Ob.d fun c => r_indexAddr rfl Try.underlying22 Try.sizeOf45 (c.n 8 rfl) r1.isSl (c.n 9 rfl) (by first | omega | (simp only [List.length_append, Array.length_toList, ByteArray.size_data, ByteArray.size_extract, List.length_set, ByteArray.size_append]; omega)) (by first | omega | (simp only [List.length_append, Array.length_toList, ByteArray.size_data, ByteArray.size_extract, List.length_set, ByteArray.size_append]; omega)),
    Ob.d fun c => r_fieldAddr rfl Try.underlying45 rfl rfl Try.sizeOf43 (c.n 10 rfl),
    Ob.d fun c => r_fieldAddr rfl Try.underlying43 rfl rfl Try.sizeOf3 (c.n 11 rfl),
    Ob.d fun c => r_load1 rfl Try.isAgg3 (c.n 12 rfl) (by have h_ := ((c.io 1 rfl).1.sl).elem (j := 0) (nth_some (i := (k : Int)) (by first | omega | (simp only [List.length_append, Array.length_toList, ByteArray.size_data, ByteArray.size_extract, List.length_set, ByteArray.size_append]; omega)) (by first | omega | (simp only [List.length_append, Array.length_toList, ByteArray.size_data, ByteArray.size_extract, List.length_set, ByteArray.size_append]; omega))) rfl; rw [add_add] at h_; rw [add_add, add_add]; exact h_),
    Ob.d fun c => r_move rfl (c.p e9),
    Ob.d fun c => r_add rfl (c.n 13 rfl) (c.n 14 rfl) (by first | omega | (simp only [List.length_append, Array.length_toList, ByteArray.size_data, ByteArray.size_extract, List.length_set, ByteArray.size_append]; omega)),
    Ob.d fun c => r_move rfl (c.p e7),
    Ob.d fun c => r_move rfl (c.p e11),
    Ob.d fun c => r_indexAddr rfl Try.underlying22 Try.sizeOf45 (c.n 16 rfl) r1.isSl (c.n 17 rfl) (by first | omega | (simp only [List.length_append, Array.length_toList, ByteArray.size_data, ByteArray.size_extract, List.length_set, ByteArray.size_append]; omega)) (by first | omega | (simp only [List.length_append, Array.length_toList, ByteArray.size_data, ByteArray.size_extract, List.length_set, ByteArray.size_append]; omega)),
    Ob.d fun c => r_fieldAddr rfl Try.underlying45 rfl rfl Try.sizeOf9 (c.n 18 rfl),
    Ob.d fun c => r_load1 rfl Try.isAgg9 (c.n 19 rfl) (((c.io 1 rfl).1.sl).elem (j := 2) (nth_some (i := (k : Int)) (by first | omega | (simp only [List.length_append, Array.length_toList, ByteArray.size_data, ByteArray.size_extract, List.length_set, ByteArray.size_append]; omega)) (by first | omega | (simp only [List.length_append, Array.length_toList, ByteArray.size_data, ByteArray.size_extract, List.length_set, ByteArray.size_append]; omega))) rfl),
    Ob.d fun c => r_lenS rfl Try.underlying9 (c.n 20 rfl),
    Ob.d fun c => r_add rfl (c.n 15 rfl) (c.n 21 rfl) (by first | omega | (simp only [List.length_append, Array.length_toList, ByteArray.size_data, ByteArray.size_extract, List.length_set, ByteArray.size_append]; omega)),
    Ob.d fun c => r_build (cells := #[(.int .i64 ((nth (isort ltE xs) ((k : Int))).1 + ((backS s ((isort ltE xs).take k)).2.1))), (.int .i64 ((nth (isort ltE xs) ((k : Int))).1 + ((backS s ((isort ltE xs).take k)).2.1) + (((nth (isort ltE xs) ((k : Int))).2.2).size : Int)))]) rfl Try.underlying43 Try.zeroValue43 (pl := #[(0, 1), (1, 1)]) (fun w_ => by simp [Try.sizeOf3]) (fill2 (c.n 7 rfl) (c.n 22 rfl) rfl),
    Ob.d fun c => r_move rfl (c.p e0),
    Ob.d fun c => r_move rfl (c.p e7),
    Ob.d fun c => r_move rfl (c.p e11),
    Ob.d fun c => r_indexAddr rfl Try.underlying22 Try.sizeOf45 (c.n 25 rfl) r1.isSl (c.n 26 rfl) (by first | omega | (simp only [List.length_append, Array.length_toList, ByteArray.size_data, ByteArray.size_extract, List.length_set, ByteArray.size_append]; omega)) (by first | omega | (simp only [List.length_append, Array.length_toList, ByteArray.size_data, ByteArray.size_extract, List.length_set, ByteArray.size_append]; omega)),
    Ob.d fun c => r_fieldAddr rfl Try.underlying45 rfl rfl Try.sizeOf43 (c.n 27 rfl),
    Ob.d fun c => r_fieldAddr rfl Try.underlying43 rfl rfl Try.sizeOf3 (c.n 28 rfl),
    Ob.d fun c => r_load1 rfl Try.isAgg3 (c.n 29 rfl) (by have h_ := ((c.io 1 rfl).1.sl).elem (j := 0) (nth_some (i := (k : Int)) (by first | omega | (simp only [List.length_append, Array.length_toList, ByteArray.size_data, ByteArray.size_extract, List.length_set, ByteArray.size_append]; omega)) (by first | omega | (simp only [List.length_append, Array.length_toList, ByteArray.size_data, ByteArray.size_extract, List.length_set, ByteArray.size_append]; omega))) rfl; rw [add_add] at h_; rw [add_add, add_add]; exact h_),
    Ob.d fun c => r_move rfl (c.p e7),
    Ob.d fun c => r_move rfl (c.p e11),
    Ob.d fun c => r_indexAddr rfl Try.underlying22 Try.sizeOf45 (c.n 31 rfl) r1.isSl (c.n 32 rfl) (by first | omega | (simp only [List.length_append, Array.length_toList, ByteArray.size_data, ByteArray.size_extract, List.length_set, ByteArray.size_append]; omega)) (by first | omega | (simp only [List.length_append, Array.length_toList, ByteArray.size_data, ByteArray.size_extract, List.length_set, ByteArray.size_append]; omega)),
    Ob.d fun c => r_fieldAddr rfl Try.underlying45 rfl rfl Try.sizeOf43 (c.n 33 rfl),
    Ob.d fun c => r_fieldAddr rfl Try.underlying43 rfl rfl Try.sizeOf3 (c.n 34 rfl),
    Ob.d fun c => r_load1 rfl Try.isAgg3 (c.n 35 rfl) (by have h_ := ((c.io 1 rfl).1.sl).elem (j := 1) (nth_some (i := (k : Int)) (by first | omega | (simp only [List.length_append, Array.length_toList, ByteArray.size_data, ByteArray.size_extract, List.length_set, ByteArray.size_append]; omega)) (by first | omega | (simp only [List.length_append, Array.length_toList, ByteArray.size_data, ByteArray.size_extract, List.length_set, ByteArray.size_append]; omega))) rfl; rw [add_add] at h_; rw [add_add, add_add]; exact h_),
    Ob.d fun c => r_sub2 (s := s) (p := (nth (isort ltE xs) ((k : Int))).1) (q := (nth (isort ltE xs) ((k : Int))).2.1) rfl Try.underlying9 (c.n 24 rfl) (c.n 30 rfl) (c.n 36 rfl) (by first | omega | (simp only [List.length_append, Array.length_toList, ByteArray.size_data, ByteArray.size_extract, List.length_set, ByteArray.size_append]; omega)) (by first | omega | (simp only [List.length_append, Array.length_toList, ByteArray.size_data, ByteArray.size_extract, List.length_set, ByteArray.size_append]; omega)) (by first | omega | (simp only [List.length_append, Array.length_toList, ByteArray.size_data, ByteArray.size_extract, List.length_set, ByteArray.size_append]; omega)),
    Ob.d fun c => r_build (cells := #[(.int .i64 ((nth (isort ltE xs) ((k : Int))).1 + ((backS s ((isort ltE xs).take k)).2.1))), (.int .i64 ((nth (isort ltE xs) ((k : Int))).1 + ((backS s ((isort ltE xs).take k)).2.1) + (((nth (isort ltE xs) ((k : Int))).2.2).size : Int))), (.string (s.extract ((nth (isort ltE xs) ((k : Int))).1).toNat ((nth (isort ltE xs) ((k : Int))).2.1).toNat))]) rfl Try.underlying45 Try.zeroValue45 (pl := #[(0, 2), (2, 1)]) (fun w_ => by simp [Try.sizeOf43, Try.sizeOf9]) (fill2 (c.n 23 rfl) (c.n 37 rfl) rfl),
    Ob.alloc rfl rfl rfl rfl Try.zeroValue45 rfl,
    Ob.storeBox (off := 0) (v := (.agg #[(.int .i64 ((nth (isort ltE xs) ((k : Int))).1 + ((backS s ((isort ltE xs).take k)).2.1))), (.int .i64 ((nth (isort ltE xs) ((k : Int))).1 + ((backS s ((isort ltE xs).take k)).2.1) + (((nth (isort ltE xs) ((k : Int))).2.2).size : Int))), (.string (s.extract ((nth (isort ltE xs) ((k : Int))).1).toNat ((nth (isort ltE xs) ((k : Int))).2.1).toNat))])) rfl rfl rfl rfl Try.sizeOf45 (Nat.le_of_ble_eq_true rfl) (by simp [Value.cells, Value.oneCell']) rfl (fun _ _ _ _ c => ⟨c.rb 39 rfl, (c.rb 39 rfl).ptr, (c.n 38 rfl)⟩), trivial⟩ ?_
   intro a11 w11 τ11 st11 f11
   obtain ⟨b11x12, e12⟩ : ∃ b, get a11 12 = b := ⟨_, rfl⟩
   obtain ⟨e0, e4, e5, e7, e8, e9, e10, e11, e26, -⟩ := f11.ks [(0, _), (4, _), (5, _), (7, _), (8, _), (9, _), (10, _), (11, _), (26, _)] ⟨e0, e4, e5, e7, e8, e9, e10, e11, e26, trivial⟩
   replace r0 := f11.io 0 rfl
   replace r1 := f11.io 1 rfl
   have r2 : boxR 45 [(.int .i64 ((nth (isort ltE xs) ((k : Int))).1 + ((backS s ((isort ltE xs).take k)).2.1))), (.int .i64 ((nth (isort ltE xs) ((k : Int))).1 + ((backS s ((isort ltE xs).take k)).2.1) + (((nth (isort ltE xs) ((k : Int))).2.2).size : Int))), (.string (s.extract ((nth (isort ltE xs) ((k : Int))).1).toNat ((nth (isort ltE xs) ((k : Int))).2.1).toNat))] (τ11 2) b11x12 w11 := f11.rb 40 e12 rfl
   clear f11
   show Code.wp _ _ _ a11 w11
   refine wp_seq ?_
   refine region_St (bf := [0, 0, 0, 6, 14, 30, 62, 127, 0, 0, 768, 1792, 3840, 7936, 0, 0, 49152, 114688, 245760, 507904, 1048320, 2097151, 4194303]) (sp := [det _ 68 _, det _ 69 _, det _ 70 _, det _ 71 _, det _ 72 _, det _ 73 _, det _ 74 _, det _ 75 _, det _ 76 _, det _ 77 _, det _ 78 _, det _ 79 _, det _ 80 _, det _ 81 _, det _ 82 _, det _ 83 _, det _ 84 _, det _ 85 _, det _ 86 _, det _ 87 _, det _ 88 _, det _ 89 _, det _ 9 _]) [io r0, io r1, ib r2] mixed st11 (by kernel_rfl) ⟨r0, r1, r2, trivial⟩
    ⟨Ob.d fun c => r_move rfl (c.p e9),
    Ob.d fun c => r_move rfl (c.p e7),
    Ob.d fun c => r_move rfl (c.p e11),
    Ob.d fun c => r_indexAddr rfl Try.underlying22 Try.sizeOf45 (c.n 1 rfl) r1.isSl (c.n 2 rfl) (by first | omega | (simp only [List.length_append, Array.length_toList, ByteArray.size_data, ByteArray.size_extract, List.length_set, ByteArray.size_append]; omega)) (by first | omega | (simp only [List.length_append, Array.length_toList, ByteArray.size_data, ByteArray.size_extract, List.length_set, ByteArray.size_append]; omega)),
    Ob.d fun c => r_fieldAddr rfl Try.underlying45 rfl rfl Try.sizeOf9 (c.n 3 rfl),
    Ob.d fun c => r_load1 rfl Try.isAgg9 (c.n 4 rfl) (((c.io 1 rfl).1.sl).elem (j := 2) (nth_some (i := (k : Int)) (by first | omega | (simp only [List.length_append, Array.length_toList, ByteArray.size_data, ByteArray.size_extract, List.length_set, ByteArray.size_append]; omega)) (by first | omega | (simp only [List.length_append, Array.length_toList, ByteArray.size_data, ByteArray.size_extract, List.length_set, ByteArray.size_append]; omega))) rfl),
    Ob.d fun c => r_lenS rfl Try.underlying9 (c.n 5 rfl),
    Ob.d fun c => r_add rfl (c.n 0 rfl) (c.n 6 rfl) (by first | omega | (simp only [List.length_append, Array.length_toList, ByteArray.size_data, ByteArray.size_extract, List.length_set, ByteArray.size_append]; omega)),
    Ob.d fun c => r_move rfl (c.p e7),
    Ob.d fun c => r_move rfl (c.p e11),
    Ob.d fun c => r_indexAddr rfl Try.underlying22 Try.sizeOf45 (c.n 8 rfl) r1.isSl (c.n 9 rfl) (by first | omega | (simp only [List.length_append, Array.length_toList, ByteArray.size_data, ByteArray.size_extract, List.length_set, ByteArray.size_append]; omega)) (by first | omega | (simp only [List.length_append, Array.length_toList, ByteArray.size_data, ByteArray.size_extract, List.length_set, ByteArray.size_append]; omega)),
    Ob.d fun c => r_fieldAddr rfl Try.underlying45 rfl rfl Try.sizeOf43 (c.n 10 rfl),
    Ob.d fun c => r_fieldAddr rfl Try.underlying43 rfl rfl Try.sizeOf3 (c.n 11 rfl),
    Ob.d fun c => r_load1 rfl Try.isAgg3 (c.n 12 rfl) (by have h_ := ((c.io 1 rfl).1.sl).elem (j := 1) (nth_some (i := (k : Int)) (by first | omega | (simp only [List.length_append, Array.length_toList, ByteArray.size_data, ByteArray.size_extract, List.length_set, ByteArray.size_append]; omega)) (by first | omega | (simp only [List.length_append, Array.length_toList, ByteArray.size_data, ByteArray.size_extract, List.length_set, ByteArray.size_append]; omega))) rfl; rw [add_add] at h_; rw [add_add, add_add]; exact h_),
    Ob.d fun c => r_move rfl (c.p e7),
    Ob.d fun c => r_move rfl (c.p e11),
    Ob.d fun c => r_indexAddr rfl Try.underlying22 Try.sizeOf45 (c.n 14 rfl) r1.isSl (c.n 15 rfl) (by first | omega | (simp only [List.length_append, Array.length_toList, ByteArray.size_data, ByteArray.size_extract, List.length_set, ByteArray.size_append]; omega)) (by first | omega | (simp only [List.length_append, Array.length_toList, ByteArray.size_data, ByteArray.size_extract, List.length_set, ByteArray.size_append]; omega)),
    Ob.d fun c => r_fieldAddr rfl Try.underlying45 rfl rfl Try.sizeOf43 (c.n 16 rfl),
    Ob.d fun c => r_fieldAddr rfl Try.underlying43 rfl rfl Try.sizeOf3 (c.n 17 rfl),
    Ob.d fun c => r_load1 rfl Try.isAgg3 (c.n 18 rfl) (by have h_ := ((c.io 1 rfl).1.sl).elem (j := 0) (nth_some (i := (k : Int)) (by first | omega | (simp only [List.length_append, Array.length_toList, ByteArray.size_data, ByteArray.size_extract, List.length_set, ByteArray.size_append]; omega)) (by first | omega | (simp only [List.length_append, Array.length_toList, ByteArray.size_data, ByteArray.size_extract, List.length_set, ByteArray.size_append]; omega))) rfl; rw [add_add] at h_; rw [add_add, add_add]; exact h_),
    Ob.d fun c => r_sub rfl (c.n 13 rfl) (c.n 19 rfl) (by first | omega | (simp only [List.length_append, Array.length_toList, ByteArray.size_data, ByteArray.size_extract, List.length_set, ByteArray.size_append]; omega)),
    Ob.d fun c => r_sub rfl (c.n 7 rfl) (c.n 20 rfl) (by first | omega | (simp only [List.length_append, Array.length_toList, ByteArray.size_data, ByteArray.size_extract, List.length_set, ByteArray.size_append]; omega)),
    Ob.d fun c => r_assign rfl (c.n 21 rfl), trivial⟩ ?_
   intro a12 w12 τ12 st12 f12
   obtain ⟨e0, e4, e5, e7, e8, e10, e11, e12, e26, -⟩ := f12.ks [(0, _), (4, _), (5, _), (7, _), (8, _), (10, _), (11, _), (12, _), (26, _)] ⟨e0, e4, e5, e7, e8, e10, e11, e12, e26, trivial⟩
   have e9 : get a12 9 = (.int .i64 ((backS s ((isort ltE xs).take k)).2.1 + (((nth (isort ltE xs) ((k : Int))).2.2).size : Int) - ((nth (isort ltE xs) ((k : Int))).2.1 - ((nth (isort ltE xs) ((k : Int))).1)))) := f12.v 22 rfl
   replace r0 := f12.io 0 rfl
   replace r1 := f12.io 1 rfl
   replace r2 := f12.ib 2 rfl
   clear f12
   show Code.wp _ _ _ a12 w12
   refine wp_seq ?_
   refine region_St (bf := [0, 1, 3]) (sp := [det _ 90 _, det _ 91 _, det _ 13 _]) [io r0, io r1, ib r2] mixed st12 (by kernel_rfl) ⟨r0, r1, r2, trivial⟩
    ⟨Ob.d fun c => r_move rfl (c.p e8),
    Ob.d fun c => r_len rfl Try.underlying22 (c.n 0 rfl) r0.isSl,
    Ob.d fun c => r_assign rfl (c.n 1 rfl), trivial⟩ ?_
   intro a13 w13 τ13 st13 f13
   obtain ⟨e0, e4, e5, e7, e8, e9, e10, e11, e12, e26, -⟩ := f13.ks [(0, _), (4, _), (5, _), (7, _), (8, _), (9, _), (10, _), (11, _), (12, _), (26, _)] ⟨e0, e4, e5, e7, e8, e9, e10, e11, e12, e26, trivial⟩
   have e13 : get a13 13 = (.int .i64 ((((backS s ((isort ltE xs).take k)).1).length : Int))) := f13.v 2 rfl
   replace r0 := f13.io 0 rfl
   replace r1 := f13.io 1 rfl
   replace r2 := f13.ib 2 rfl
   clear f13
   show Code.wp _ _ _ a13 w13
   refine wp_seq ?_
   refine wp_seq ?_
   refine region_St (bf := [0, 1, 3, 7, 7, 7, 55, 119, 247, 503, 1023, 2047]) (sp := [det _ 92 _, det _ 93 _, det _ 94 _, gdet _ 95 _ _, gdet _ 96 _ _, gdet _ 97 _ _, gdet _ 98 _ _, gdet _ 99 _ _, gdet _ 100 _ _, gdet _ 101 _ _, gdet _ 102 _ _, det _ 103 _]) [io r0, io r1, ib r2] mixed st13 (by kernel_rfl) ⟨r0, r1, r2, trivial⟩
    ⟨Ob.d fun c => r_move rfl (c.p e13),
    Ob.d fun c => r_gtr rfl (c.n 0 rfl) rfl,
    Ob.d fun c => r_move rfl (c.n 1 rfl),
    Ob.g 2 true rfl fun c hpc => r_move rfl (c.p e10),
    Ob.g 2 true rfl fun c hpc => r_move rfl (c.p e7),
    Ob.g 2 true rfl fun c hpc => r_move rfl (c.p e11),
    Ob.g 2 true rfl fun c hpc => r_indexAddr rfl Try.underlying22 Try.sizeOf45 (c.m 4 rfl hpc) r1.isSl (c.m 5 rfl hpc) (by have hq0 := bt hpc; first | omega | (simp only [List.length_append, Array.length_toList, ByteArray.size_data, ByteArray.size_extract, List.length_set, ByteArray.size_append]; omega)) (by have hq0 := bt hpc; first | omega | (simp only [List.length_append, Array.length_toList, ByteArray.size_data, ByteArray.size_extract, List.length_set, ByteArray.size_append]; omega)),
    Ob.g 2 true rfl fun c hpc => r_fieldAddr rfl Try.underlying45 rfl rfl Try.sizeOf43 (c.m 6 rfl hpc),
    Ob.g 2 true rfl fun c hpc => r_fieldAddr rfl Try.underlying43 rfl rfl Try.sizeOf3 (c.m 7 rfl hpc),
    Ob.g 2 true rfl fun c hpc => r_load1 rfl Try.isAgg3 (c.m 8 rfl hpc) (by have h_ := ((c.io 1 rfl).1.sl).elem (j := 0) (nth_some (i := (k : Int)) (by have hq0 := bt hpc; first | omega | (simp only [List.length_append, Array.length_toList, ByteArray.size_data, ByteArray.size_extract, List.length_set, ByteArray.size_append]; omega)) (by have hq0 := bt hpc; first | omega | (simp only [List.length_append, Array.length_toList, ByteArray.size_data, ByteArray.size_extract, List.length_set, ByteArray.size_append]; omega))) rfl; rw [add_add] at h_; rw [add_add, add_add]; exact h_),
    Ob.g 2 true rfl fun c hpc => r_eql rfl (c.m 3 rfl hpc) (c.m 9 rfl hpc),
    Ob.d fun c => r_and rfl (c.n 2 rfl) (fun h => c.m 10 rfl h), trivial⟩ ?_
   intro a14 w14 τ14 st14 f14
   obtain ⟨e0, e4, e5, e7, e8, e9, e10, e11, e12, e13, e26, -⟩ := f14.ks [(0, _), (4, _), (5, _), (7, _), (8, _), (9, _), (10, _), (11, _), (12, _), (13, _), (26, _)] ⟨e0, e4, e5, e7, e8, e9, e10, e11, e12, e13, e26, trivial⟩
   have e103 : get a14 103 = (.bool ((decide (0 < (((backS s ((isort ltE xs).take k)).1).length : Int))) && (decide ((backS s ((isort ltE xs).take k)).2.2 = (nth (isort ltE xs) ((k : Int))).1)))) := f14.v 11 rfl
   replace r0 := f14.io 0 rfl
   replace r1 := f14.io 1 rfl
   replace r2 := f14.ib 2 rfl
   clear f14
   show Code.wp _ _ _ a14 w14
   refine wp_cond_split (t := (decide (0 < (((backS s ((isort ltE xs).take k)).1).length : Int))) && (decide ((backS s ((isort ltE xs).take k)).2.2 = (nth (isort ltE xs) ((k : Int))).1))) e103 (fun hc3 => ?_) (fun hc3 => ?_)
   · have hd3 := hc3; try simp only [Bool.and_eq_true, decide_eq_true_eq] at hd3
     refine wp_seq ?_
     refine region_St (bf := [0, 0, 2, 0, 8, 24, 63, 127, 255, 511]) (sp := [det _ 104 _, det _ 105 _, det _ 106 _, det _ 107 _, det _ 108 _, det _ 109 _, det _ 110 _, det _ 111 _, det _ 112 _, own _ _ _ 0 8 _]) [io r0, io r1, ib r2] mixed st14 (by kernel_rfl) ⟨r0, r1, r2, trivial⟩
      ⟨Ob.d fun c => r_move rfl (c.p e8),
      Ob.d fun c => r_move rfl (c.p e13),
      Ob.d fun c => r_sub rfl (c.n 1 rfl) rfl (by first | omega | (simp only [List.length_append, Array.length_toList, ByteArray.size_data, ByteArray.size_extract, List.length_set, ByteArray.size_append]; omega)),
      Ob.d fun c => r_fieldAddr rfl Try.underlying45 rfl rfl Try.sizeOf43 ((c.p e12).trans r2.ptr),
      Ob.d fun c => r_fieldAddr rfl Try.underlying43 rfl rfl Try.sizeOf3 (c.n 3 rfl),
      Ob.d fun c => r_load1 rfl Try.isAgg3 (c.n 4 rfl) (by rw [add_add]; exact (c.ib 2 rfl).cell (j := 1) rfl),
      Ob.d fun c => r_indexAddr rfl Try.underlying22 Try.sizeOf45 (c.n 0 rfl) r0.isSl (c.n 2 rfl) (by first | omega | (simp only [List.length_append, Array.length_toList, ByteArray.size_data, ByteArray.size_extract, List.length_set, ByteArray.size_append]; omega)) (by first | omega | (simp only [List.length_append, Array.length_toList, ByteArray.size_data, ByteArray.size_extract, List.length_set, ByteArray.size_append]; omega)),
      Ob.d fun c => r_fieldAddr rfl Try.underlying45 rfl rfl Try.sizeOf43 (c.n 6 rfl),
      Ob.d fun c => r_fieldAddr rfl Try.underlying43 rfl rfl Try.sizeOf3 (c.n 7 rfl),
      Ob.storeElem (E := EditE) (i := ((((backS s ((isort ltE xs).take k)).1).length : Int) - 1).toNat) (off := 1) (u := (.int .i64 ((nth (isort ltE xs) ((k : Int))).1 + ((backS s ((isort ltE xs).take k)).2.1) + (((nth (isort ltE xs) ((k : Int))).2.2).size : Int)))) (x := nth ((backS s ((isort ltE xs).take k)).1) ((((backS s ((isort ltE xs).take k)).1).length : Int) - 1)) (x' := ((nth ((backS s ((isort ltE xs).take k)).1) ((((backS s ((isort ltE xs).take k)).1).length : Int) - 1)).1, (nth (isort ltE xs) ((k : Int))).1 + ((backS s ((isort ltE xs).take k)).2.1) + (((nth (isort ltE xs) ((k : Int))).2.2).size : Int), (nth ((backS s ((isort ltE xs).take k)).1) ((((backS s ((isort ltE xs).take k)).1).length : Int) - 1)).2.2)) rfl rfl rfl rfl Try.sizeOf3 (nth_some (by first | omega | (simp only [List.length_append, Array.length_toList, ByteArray.size_data, ByteArray.size_extract, List.length_set, ByteArray.size_append]; omega)) (by (try simp only [List.length_set]); omega)) (Nat.le_of_ble_eq_true rfl) (by simp [Value.cells, Value.oneCell']) rfl (fun _ a_ _ _ c => ⟨c.ip 0 rfl e8, c.ad (c.n 8 rfl) e8 (by rw [add_add, add_add]; rfl), (c.n 5 rfl)⟩), trivial⟩ ?_
     intro a15 w15 τ15 st15 f15
     obtain ⟨e0, e4, e5, e7, e8, e9, e10, e11, e12, e13, e26, e103, -⟩ := f15.ks [(0, _), (4, _), (5, _), (7, _), (8, _), (9, _), (10, _), (11, _), (12, _), (13, _), (26, _), (103, _)] ⟨e0, e4, e5, e7, e8, e9, e10, e11, e12, e13, e26, e103, trivial⟩
     replace r0 : ownR EditE 45 (((backS s ((isort ltE xs).take k)).1).set ((((backS s ((isort ltE xs).take k)).1).length : Int) - 1).toNat ((nth ((backS s ((isort ltE xs).take k)).1) ((((backS s ((isort ltE xs).take k)).1).length : Int) - 1)).1, (nth (isort ltE xs) ((k : Int))).1 + ((backS s ((isort ltE xs).take k)).2.1) + (((nth (isort ltE xs) ((k : Int))).2.2).size : Int), (nth ((backS s ((isort ltE xs).take k)).1) ((((backS s ((isort ltE xs).take k)).1).length : Int) - 1)).2.2)) (τ15 0) u w15 := f15.ro 9 e8 rfl
     replace r1 := f15.io 1 rfl
     replace r2 := f15.ib 2 rfl
     clear f15
     obtain ⟨hgt, hlast⟩ : (0 : Int) < ((backS s ((isort ltE xs).take k)).1.length : Int) ∧ (backS s ((isort ltE xs).take k)).2.2 = (nth (isort ltE xs) (k : Int)).1 := by assumption
     have hns : (nth (((backS s ((isort ltE xs).take k)).1).set ((((backS s ((isort ltE xs).take k)).1).length : Int) - 1).toNat ((nth ((backS s ((isort ltE xs).take k)).1) ((((backS s ((isort ltE xs).take k)).1).length : Int) - 1)).1, (nth (isort ltE xs) ((k : Int))).1 + ((backS s ((isort ltE xs).take k)).2.1) + (((nth (isort ltE xs) ((k : Int))).2.2).size : Int), (nth ((backS s ((isort ltE xs).take k)).1) ((((backS s ((isort ltE xs).take k)).1).length : Int) - 1)).2.2)) (((backS s ((isort ltE xs).take k)).1.length : Int) - 1)).2.2.size = (nth (backS s ((isort ltE xs).take k)).1 (((backS s ((isort ltE xs).take k)).1.length : Int) - 1)).2.2.size := by rw [nth_set_same (xs := (backS s ((isort ltE xs).take k)).1) (i := (((backS s ((isort ltE xs).take k)).1.length : Int) - 1)) (by omega) (by omega)]
     show Code.wp _ _ _ a15 w15
     refine region_St (bf := [0, 0, 2, 0, 0, 16, 56, 120, 248, 0, 512, 2040, 4095, 8191, 16383]) (sp := [det _ 113 _, det _ 114 _, det _ 115 _, det _ 116 _, det _ 117 _, det _ 118 _, det _ 119 _, det _ 120 _, det _ 121 _, det _ 122 _, det _ 123 _, det _ 124 _, det _ 125 _, det _ 126 _, own _ _ _ 0 8 _]) [io r0, io r1, ib r2] mixed st15 (by kernel_rfl) ⟨r0, r1, r2, trivial⟩
      ⟨Ob.d fun c => r_move rfl (c.p e8),
      Ob.d fun c => r_move rfl (c.p e13),
      Ob.d fun c => r_sub rfl (c.n 1 rfl) rfl (by first | omega | (simp only [List.length_append, Array.length_toList, ByteArray.size_data, ByteArray.size_extract, List.length_set, ByteArray.size_append]; omega)),
      Ob.d fun c => r_move rfl (c.p e8),
      Ob.d fun c => r_move rfl (c.p e13),
      Ob.d fun c => r_sub rfl (c.n 4 rfl) rfl (by first | omega | (simp only [List.length_append, Array.length_toList, ByteArray.size_data, ByteArray.size_extract, List.length_set, ByteArray.size_append]; omega)),
      Ob.d fun c => r_indexAddr rfl Try.underlying22 Try.sizeOf45 (c.n 3 rfl) r0.isSl (c.n 5 rfl) (by first | omega | (simp only [List.length_append, Array.length_toList, ByteArray.size_data, ByteArray.size_extract, List.length_set, ByteArray.size_append]; omega)) (by first | omega | (simp only [List.length_append, Array.length_toList, ByteArray.size_data, ByteArray.size_extract, List.length_set, ByteArray.size_append]; omega)),
      Ob.d fun c => r_fieldAddr rfl Try.underlying45 rfl rfl Try.sizeOf9 (c.n 6 rfl),
      Ob.d fun c => r_load1 rfl Try.isAgg9 (c.n 7 rfl) (((c.io 0 rfl).1.sl).elem (j := 2) (nth_some (i := (((backS s ((isort ltE xs).take k)).1).length : Int) - 1) (by first | omega | (simp only [List.length_append, Array.length_toList, ByteArray.size_data, ByteArray.size_extract, List.length_set, ByteArray.size_append]; omega)) (by first | omega | (simp only [List.length_append, Array.length_toList, ByteArray.size_data, ByteArray.size_extract, List.length_set, ByteArray.size_append]; omega))) rfl),
      Ob.d fun c => r_fieldAddr rfl Try.underlying45 rfl rfl Try.sizeOf9 ((c.p e12).trans r2.ptr),
      Ob.d fun c => r_load1 rfl Try.isAgg9 (c.n 9 rfl) ((c.ib 2 rfl).cell (j := 2) rfl),
      Ob.d fun c => r_sadd rfl (c.n 8 rfl) (c.n 10 rfl) (by first | omega | (simp only [List.length_append, Array.length_toList, ByteArray.size_data, ByteArray.size_extract, List.length_set, ByteArray.size_append]; omega)),
      Ob.d fun c => r_indexAddr rfl Try.underlying22 Try.sizeOf45 (c.n 0 rfl) r0.isSl (c.n 2 rfl) (by first | omega | (simp only [List.length_append, Array.length_toList, ByteArray.size_data, ByteArray.size_extract, List.length_set, ByteArray.size_append]; omega)) (by first | omega | (simp only [List.length_append, Array.length_toList, ByteArray.size_data, ByteArray.size_extract, List.length_set, ByteArray.size_append]; omega)),
      Ob.d fun c => r_fieldAddr rfl Try.underlying45 rfl rfl Try.sizeOf9 (c.n 12 rfl),
      Ob.storeElem (E := EditE) (i := ((((backS s ((isort ltE xs).take k)).1).length : Int) - 1).toNat) (off := 2) (u := (.string (((nth (((backS s ((isort ltE xs).take k)).1).set ((((backS s ((isort ltE xs).take k)).1).length : Int) - 1).toNat ((nth ((backS s ((isort ltE xs).take k)).1) ((((backS s ((isort ltE xs).take k)).1).length : Int) - 1)).1, (nth (isort ltE xs) ((k : Int))).1 + ((backS s ((isort ltE xs).take k)).2.1) + (((nth (isort ltE xs) ((k : Int))).2.2).size : Int), (nth ((backS s ((isort ltE xs).take k)).1) ((((backS s ((isort ltE xs).take k)).1).length : Int) - 1)).2.2)) ((((backS s ((isort ltE xs).take k)).1).length : Int) - 1)).2.2) ++ (s.extract ((nth (isort ltE xs) ((k : Int))).1).toNat ((nth (isort ltE xs) ((k : Int))).2.1).toNat)))) (x := nth (((backS s ((isort ltE xs).take k)).1).set ((((backS s ((isort ltE xs).take k)).1).length : Int) - 1).toNat ((nth ((backS s ((isort ltE xs).take k)).1) ((((backS s ((isort ltE xs).take k)).1).length : Int) - 1)).1, (nth (isort ltE xs) ((k : Int))).1 + ((backS s ((isort ltE xs).take k)).2.1) + (((nth (isort ltE xs) ((k : Int))).2.2).size : Int), (nth ((backS s ((isort ltE xs).take k)).1) ((((backS s ((isort ltE xs).take k)).1).length : Int) - 1)).2.2)) ((((backS s ((isort ltE xs).take k)).1).length : Int) - 1)) (x' := ((nth (((backS s ((isort ltE xs).take k)).1).set ((((backS s ((isort ltE xs).take k)).1).length : Int) - 1).toNat ((nth ((backS s ((isort ltE xs).take k)).1) ((((backS s ((isort ltE xs).take k)).1).length : Int) - 1)).1, (nth (isort ltE xs) ((k : Int))).1 + ((backS s ((isort ltE xs).take k)).2.1) + (((nth (isort ltE xs) ((k : Int))).2.2).size : Int), (nth ((backS s ((isort ltE xs).take k)).1) ((((backS s ((isort ltE xs).take k)).1).length : Int) - 1)).2.2)) ((((backS s ((isort ltE xs).take k)).1).length : Int) - 1)).1, (nth (((backS s ((isort ltE xs).take k)).1).set ((((backS s ((isort ltE xs).take k)).1).length : Int) - 1).toNat ((nth ((backS s ((isort ltE xs).take k)).1) ((((backS s ((isort ltE xs).take k)).1).length : Int) - 1)).1, (nth (isort ltE xs) ((k : Int))).1 + ((backS s ((isort ltE xs).take k)).2.1) + (((nth (isort ltE xs) ((k : Int))).2.2).size : Int), (nth ((backS s ((isort ltE xs).take k)).1) ((((backS s ((isort ltE xs).take k)).1).length : Int) - 1)).2.2)) ((((backS s ((isort ltE xs).take k)).1).length : Int) - 1)).2.1, ((nth (((backS s ((isort ltE xs).take k)).1).set ((((backS s ((isort ltE xs).take k)).1).length : Int) - 1).toNat ((nth ((backS s ((isort ltE xs).take k)).1) ((((backS s ((isort ltE xs).take k)).1).length : Int) - 1)).1, (nth (isort ltE xs) ((k : Int))).1 + ((backS s ((isort ltE xs).take k)).2.1) + (((nth (isort ltE xs) ((k : Int))).2.2).size : Int), (nth ((backS s ((isort ltE xs).take k)).1) ((((backS s ((isort ltE xs).take k)).1).length : Int) - 1)).2.2)) ((((backS s ((isort ltE xs).take k)).1).length : Int) - 1)).2.2) ++ (s.extract ((nth (isort ltE xs) ((k : Int))).1).toNat ((nth (isort ltE xs) ((k : Int))).2.1).toNat))) rfl rfl rfl rfl Try.sizeOf3 (nth_some (by first | omega | (simp only [List.length_append, Array.length_toList, ByteArray.size_data, ByteArray.size_extract, List.length_set, ByteArray.size_append]; omega)) (by (try simp only [List.length_set]); omega)) (Nat.le_of_ble_eq_true rfl) (by simp [Value.cells, Value.oneCell']) rfl (fun _ a_ _ _ c => ⟨c.ip 0 rfl e8, c.ad (c.n 13 rfl) e8 (by rw [add_add]; rfl), (c.n 11 rfl)⟩), trivial⟩ ?_
     intro a16 w16 τ16 st16 f16
     obtain ⟨e0, e4, e5, e7, e8, e9, e10, e11, e12, e13, e26, e103, -⟩ := f16.ks [(0, _), (4, _), (5, _), (7, _), (8, _), (9, _), (10, _), (11, _), (12, _), (13, _), (26, _), (103, _)] ⟨e0, e4, e5, e7, e8, e9, e10, e11, e12, e13, e26, e103, trivial⟩
     replace r0 : ownR EditE 45 ((((backS s ((isort ltE xs).take k)).1).set ((((backS s ((isort ltE xs).take k)).1).length : Int) - 1).toNat ((nth ((backS s ((isort ltE xs).take k)).1) ((((backS s ((isort ltE xs).take k)).1).length : Int) - 1)).1, (nth (isort ltE xs) ((k : Int))).1 + ((backS s ((isort ltE xs).take k)).2.1) + (((nth (isort ltE xs) ((k : Int))).2.2).size : Int), (nth ((backS s ((isort ltE xs).take k)).1) ((((backS s ((isort ltE xs).take k)).1).length : Int) - 1)).2.2)).set ((((backS s ((isort ltE xs).take k)).1).length : Int) - 1).toNat ((nth (((backS s ((isort ltE xs).take k)).1).set ((((backS s ((isort ltE xs).take k)).1).length : Int) - 1).toNat ((nth ((backS s ((isort ltE xs).take k)).1) ((((backS s ((isort ltE xs).take k)).1).length : Int) - 1)).1, (nth (isort ltE xs) ((k : Int))).1 + ((backS s ((isort ltE xs).take k)).2.1) + (((nth (isort ltE xs) ((k : Int))).2.2).size : Int), (nth ((backS s ((isort ltE xs).take k)).1) ((((backS s ((isort ltE xs).take k)).1).length : Int) - 1)).2.2)) ((((backS s ((isort ltE xs).take k)).1).length : Int) - 1)).1, (nth (((backS s ((isort ltE xs).take k)).1).set ((((backS s ((isort ltE xs).take k)).1).length : Int) - 1).toNat ((nth ((backS s ((isort ltE xs).take k)).1) ((((backS s ((isort ltE xs).take k)).1).length : Int) - 1)).1, (nth (isort ltE xs) ((k : Int))).1 + ((backS s ((isort ltE xs).take k)).2.1) + (((nth (isort ltE xs) ((k : Int))).2.2).size : Int), (nth ((backS s ((isort ltE xs).take k)).1) ((((backS s ((isort ltE xs).take k)).1).length : Int) - 1)).2.2)) ((((backS s ((isort ltE xs).take k)).1).length : Int) - 1)).2.1, ((nth (((backS s ((isort ltE xs).take k)).1).set ((((backS s ((isort ltE xs).take k)).1).length : Int) - 1).toNat ((nth ((backS s ((isort ltE xs).take k)).1) ((((backS s ((isort ltE xs).take k)).1).length : Int) - 1)).1, (nth (isort ltE xs) ((k : Int))).1 + ((backS s ((isort ltE xs).take k)).2.1) + (((nth (isort ltE xs) ((k : Int))).2.2).size : Int), (nth ((backS s ((isort ltE xs).take k)).1) ((((backS s ((isort ltE xs).take k)).1).length : Int) - 1)).2.2)) ((((backS s ((isort ltE xs).take k)).1).length : Int) - 1)).2.2) ++ (s.extract ((nth (isort ltE xs) ((k : Int))).1).toNat ((nth (isort ltE xs) ((k : Int))).2.1).toNat))) (τ16 0) u w16 := f16.ro 14 e8 rfl
     replace r1 := f16.io 1 rfl
     replace r2 := f16.ib 2 rfl
     clear f16
     replace r0 := r0.cast (show (backS s ((isort ltE xs).take k)).1.set (((backS s ((isort ltE xs).take k)).1.length : Int) - 1).toNat ((nth (backS s ((isort ltE xs).take k)).1 (((backS s ((isort ltE xs).take k)).1.length : Int) - 1)).1, (nth (backS s ((isort ltE xs).take k)).1 (((backS s ((isort ltE xs).take k)).1.length : Int) - 1)).2.1 + ((nth (isort ltE xs) (k : Int)).2.2.size : Int), (nth (backS s ((isort ltE xs).take k)).1 (((backS s ((isort ltE xs).take k)).1.length : Int) - 1)).2.2 ++ s.extract (nth (isort ltE xs) (k : Int)).1.toNat (nth (isort ltE xs) (k : Int)).2.1.toNat) = (((backS s ((isort ltE xs).take k)).1).set ((((backS s ((isort ltE xs).take k)).1).length : Int) - 1).toNat ((nth ((backS s ((isort ltE xs).take k)).1) ((((backS s ((isort ltE xs).take k)).1).length : Int) - 1)).1, (nth (isort ltE xs) ((k : Int))).1 + ((backS s ((isort ltE xs).take k)).2.1) + (((nth (isort ltE xs) ((k : Int))).2.2).size : Int), (nth ((backS s ((isort ltE xs).take k)).1) ((((backS s ((isort ltE xs).take k)).1).length : Int) - 1)).2.2)).set ((((backS s ((isort ltE xs).take k)).1).length : Int) - 1).toNat ((nth (((backS s ((isort ltE xs).take k)).1).set ((((backS s ((isort ltE xs).take k)).1).length : Int) - 1).toNat ((nth ((backS s ((isort ltE xs).take k)).1) ((((backS s ((isort ltE xs).take k)).1).length : Int) - 1)).1, (nth (isort ltE xs) ((k : Int))).1 + ((backS s ((isort ltE xs).take k)).2.1) + (((nth (isort ltE xs) ((k : Int))).2.2).size : Int), (nth ((backS s ((isort ltE xs).take k)).1) ((((backS s ((isort ltE xs).take k)).1).length : Int) - 1)).2.2)) ((((backS s ((isort ltE xs).take k)).1).length : Int) - 1)).1, (nth (((backS s ((isort ltE xs).take k)).1).set ((((backS s ((isort ltE xs).take k)).1).length : Int) - 1).toNat ((nth ((backS s ((isort ltE xs).take k)).1) ((((backS s ((isort ltE xs).take k)).1).length : Int) - 1)).1, (nth (isort ltE xs) ((k : Int))).1 + ((backS s ((isort ltE xs).take k)).2.1) + (((nth (isort ltE xs) ((k : Int))).2.2).size : Int), (nth ((backS s ((isort ltE xs).take k)).1) ((((backS s ((isort ltE xs).take k)).1).length : Int) - 1)).2.2)) ((((backS s ((isort ltE xs).take k)).1).length : Int) - 1)).2.1, ((nth (((backS s ((isort ltE xs).take k)).1).set ((((backS s ((isort ltE xs).take k)).1).length : Int) - 1).toNat ((nth ((backS s ((isort ltE xs).take k)).1) ((((backS s ((isort ltE xs).take k)).1).length : Int) - 1)).1, (nth (isort ltE xs) ((k : Int))).1 + ((backS s ((isort ltE xs).take k)).2.1) + (((nth (isort ltE xs) ((k : Int))).2.2).size : Int), (nth ((backS s ((isort ltE xs).take k)).1) ((((backS s ((isort ltE xs).take k)).1).length : Int) - 1)).2.2)) ((((backS s ((isort ltE xs).take k)).1).length : Int) - 1)).2.2) ++ (s.extract ((nth (isort ltE xs) ((k : Int))).1).toNat ((nth (isort ltE xs) ((k : Int))).2.1).toNat)) from by rw [nth_set_same (xs := (backS s ((isort ltE xs).take k)).1) (i := (((backS s ((isort ltE xs).take k)).1.length : Int) - 1)) (by omega) (by omega), List.set_set]; have h_ := back_to s ((isort ltE xs).take k) (fun e_ => by rw [e_] at hgt; simp at hgt); rw [h_, hlast])
     show Code.wp _ _ _ a16 w16
     refine region_St (bf := [0, 0, 3, 7, 15, 31, 63]) (sp := [det _ 131 _, det _ 132 _, det _ 133 _, det _ 134 _, det _ 135 _, det _ 136 _, det _ 10 _]) [io r0, io r1, ib r2] mixed st16 (by kernel_rfl) ⟨r0, r1, r2, trivial⟩
      ⟨Ob.d fun c => r_move rfl (c.p e7),
      Ob.d fun c => r_move rfl (c.p e11),
      Ob.d fun c => r_indexAddr rfl Try.underlying22 Try.sizeOf45 (c.n 0 rfl) r1.isSl (c.n 1 rfl) (by first | omega | (simp only [List.length_append, Array.length_toList, ByteArray.size_data, ByteArray.size_extract, List.length_set, ByteArray.size_append]; omega)) (by first | omega | (simp only [List.length_append, Array.length_toList, ByteArray.size_data, ByteArray.size_extract, List.length_set, ByteArray.size_append]; omega)),
      Ob.d fun c => r_fieldAddr rfl Try.underlying45 rfl rfl Try.sizeOf43 (c.n 2 rfl),
      Ob.d fun c => r_fieldAddr rfl Try.underlying43 rfl rfl Try.sizeOf3 (c.n 3 rfl),
      Ob.d fun c => r_load1 rfl Try.isAgg3 (c.n 4 rfl) (by have h_ := ((c.io 1 rfl).1.sl).elem (j := 1) (nth_some (i := (k : Int)) (by first | omega | (simp only [List.length_append, Array.length_toList, ByteArray.size_data, ByteArray.size_extract, List.length_set, ByteArray.size_append]; omega)) (by first | omega | (simp only [List.length_append, Array.length_toList, ByteArray.size_data, ByteArray.size_extract, List.length_set, ByteArray.size_append]; omega))) rfl; rw [add_add] at h_; rw [add_add, add_add]; exact h_),
      Ob.d fun c => r_assign rfl (c.n 5 rfl), trivial⟩ ?_
     intro a17 w17 τ17 st17 f17
     obtain ⟨e0, e4, e5, e7, e8, e9, e11, e12, e13, e26, e103, -⟩ := f17.ks [(0, _), (4, _), (5, _), (7, _), (8, _), (9, _), (11, _), (12, _), (13, _), (26, _), (103, _)] ⟨e0, e4, e5, e7, e8, e9, e11, e12, e13, e26, e103, trivial⟩
     have e10 : get a17 10 = (.int .i64 ((nth (isort ltE xs) ((k : Int))).2.1)) := f17.v 6 rfl
     replace r0 := f17.io 0 rfl
     replace r1 := f17.io 1 rfl
     replace r2 := f17.ib 2 rfl
     clear f17
     show _
     show Code.wp _ _ _ a17 w17
     refine region_St (bf := [0, 1, 3]) (sp := [det _ 27 _, det _ 28 _, det _ 11 _]) [io r0, io r1, ib r2] mixed st17 (by kernel_rfl) ⟨r0, r1, r2, trivial⟩
      ⟨Ob.d fun c => r_move rfl (c.p e11),
      Ob.d fun c => r_add rfl (c.n 0 rfl) rfl (by first | omega | (simp only [List.length_append, Array.length_toList, ByteArray.size_data, ByteArray.size_extract, List.length_set, ByteArray.size_append]; omega)),
      Ob.d fun c => r_assign rfl (c.n 1 rfl), trivial⟩ ?_
     intro a18 w18 τ18 st18 f18
     obtain ⟨e0, e4, e5, e7, e8, e9, e10, e12, e13, e26, e103, -⟩ := f18.ks [(0, _), (4, _), (5, _), (7, _), (8, _), (9, _), (10, _), (12, _), (13, _), (26, _), (103, _)] ⟨e0, e4, e5, e7, e8, e9, e10, e12, e13, e26, e103, trivial⟩
     have e11 : get a18 11 = (.int .i64 ((k : Int) + 1)) := f18.v 2 rfl
     replace r0 := f18.io 0 rfl
     replace r1 := f18.io 1 rfl
     replace r2 := f18.ib 2 rfl
     clear f18
     refine ⟨⟨k + 1, u, τ18, ?_, st18, e8, (e9.trans (int_eq (by first | omega | rfl | (rw [back_by (by omega)]; first | omega | (rw [hlw (by omega)])) | exact (back_last (by omega)).symm))), (e10.trans (int_eq (by first | omega | rfl | (rw [back_by (by omega)]; first | omega | (rw [hlw (by omega)])) | exact (back_last (by omega)).symm))), (e11.trans (int_eq (by first | omega | rfl | (rw [back_by (by omega)]; first | omega | (rw [hlw (by omega)])) | exact (back_last (by omega)).symm))), e0, e4, e5, e7, ?_, r1⟩, ?_⟩
     · omega
     · exact r0.cast (by first | exact back_hit (by omega) (back_cond (by assumption)) | exact back_miss (by omega) (back_cond (by assumption)))
     · simp only [m11, e11, intOf]; omega
   have hd3 := hc3; try simp only [Bool.and_eq_false_iff, decide_eq_false_iff_not, Int.not_lt] at hd3
   refine region_St (bf := [0, 0, 2, 7, 15]) (sp := [det _ 127 _, det _ 128 _, own EditE 45 _ 3 129 ([((nth (isort ltE xs) ((k : Int))).1 + ((backS s ((isort ltE xs).take k)).2.1), (nth (isort ltE xs) ((k : Int))).1 + ((backS s ((isort ltE xs).take k)).2.1) + (((nth (isort ltE xs) ((k : Int))).2.2).size : Int), s.extract ((nth (isort ltE xs) ((k : Int))).1).toNat ((nth (isort ltE xs) ((k : Int))).2.1).toNat)]), own _ _ _ 0 130 _, own _ _ _ 0 8 _]) [io r0, io r1, ib r2] mixed st14 (by kernel_rfl) ⟨r0, r1, r2, trivial⟩
    ⟨Ob.d fun c => r_move rfl (c.p e8),
    Ob.d fun c => r_loadN (vs := [(.int .i64 ((nth (isort ltE xs) ((k : Int))).1 + ((backS s ((isort ltE xs).take k)).2.1))), (.int .i64 ((nth (isort ltE xs) ((k : Int))).1 + ((backS s ((isort ltE xs).take k)).2.1) + (((nth (isort ltE xs) ((k : Int))).2.2).size : Int))), (.string (s.extract ((nth (isort ltE xs) ((k : Int))).1).toNat ((nth (isort ltE xs) ((k : Int))).2.1).toNat))]) rfl Try.isAgg45 Try.sizeOf45 ((c.p e12).trans r2.ptr) rfl (fun _ _ hj => (c.ib 2 rfl).cell hj),
    Ob.buildSlice (cells := #[(.int .i64 ((nth (isort ltE xs) ((k : Int))).1 + ((backS s ((isort ltE xs).take k)).2.1))), (.int .i64 ((nth (isort ltE xs) ((k : Int))).1 + ((backS s ((isort ltE xs).take k)).2.1) + (((nth (isort ltE xs) ((k : Int))).2.2).size : Int))), (.string (s.extract ((nth (isort ltE xs) ((k : Int))).1).toNat ((nth (isort ltE xs) ((k : Int))).2.1).toNat))]) rfl rfl rfl rfl Try.underlying22 Try.sizeOf45 Try.zeroValue45 rfl (by decide) (by decide) (fun _ _ _ _ c => fill1 (c.n 1 rfl) (by kernel_rfl)) rfl,
    Ob.append (t0 := 8) rfl rfl rfl rfl Try.underlying22 (i := Try.t45) rfl rfl rfl rfl (by simp only [maxLen]; (try simp); omega) (by show _ * 32 ≤ _; (try simp); omega) (fun _ _ _ _ c => ⟨c.ip 0 rfl e8, c.sm (c.n 0 rfl) e8, ⟨_, rfl, (c.ro 2 rfl).1.sl⟩⟩),
    Ob.moveT (t0 := 130) rfl rfl rfl rfl rfl (.inr rfl) (fun _ _ _ _ c => ⟨c.ro 3 rfl, rfl⟩), trivial⟩ ?_
   intro a19 w19 τ19 st19 f19
   obtain ⟨b19x129, e129⟩ : ∃ b, get a19 129 = b := ⟨_, rfl⟩
   obtain ⟨b19x8, e8⟩ : ∃ b, get a19 8 = b := ⟨_, rfl⟩
   obtain ⟨e0, e4, e5, e7, e9, e10, e11, e12, e13, e26, e103, -⟩ := f19.ks [(0, _), (4, _), (5, _), (7, _), (9, _), (10, _), (11, _), (12, _), (13, _), (26, _), (103, _)] ⟨e0, e4, e5, e7, e9, e10, e11, e12, e13, e26, e103, trivial⟩
   replace r0 : ownR EditE 45 (((backS s ((isort ltE xs).take k)).1) ++ ([((nth (isort ltE xs) ((k : Int))).1 + ((backS s ((isort ltE xs).take k)).2.1), (nth (isort ltE xs) ((k : Int))).1 + ((backS s ((isort ltE xs).take k)).2.1) + (((nth (isort ltE xs) ((k : Int))).2.2).size : Int), s.extract ((nth (isort ltE xs) ((k : Int))).1).toNat ((nth (isort ltE xs) ((k : Int))).2.1).toNat)])) (τ19 0) b19x8 w19 := f19.ro 4 e8 rfl
   replace r1 := f19.io 1 rfl
   replace r2 := f19.ib 2 rfl
   have r3 : ownR EditE 45 ([((nth (isort ltE xs) ((k : Int))).1 + ((backS s ((isort ltE xs).take k)).2.1), (nth (isort ltE xs) ((k : Int))).1 + ((backS s ((isort ltE xs).take k)).2.1) + (((nth (isort ltE xs) ((k : Int))).2.2).size : Int), s.extract ((nth (isort ltE xs) ((k : Int))).1).toNat ((nth (isort ltE xs) ((k : Int))).2.1).toNat)]) (τ19 3) b19x129 w19 := f19.ro 2 e129 rfl
   clear f19
   show Code.wp _ _ _ a19 w19
   refine region_St (bf := [0, 0, 3, 7, 15, 31, 63]) (sp := [det _ 131 _, det _ 132 _, det _ 133 _, det _ 134 _, det _ 135 _, det _ 136 _, det _ 10 _]) [io r0, io r1, ib r2, io r3] mixed st19 (by kernel_rfl) ⟨r0, r1, r2, r3, trivial⟩
    ⟨Ob.d fun c => r_move rfl (c.p e7),
    Ob.d fun c => r_move rfl (c.p e11),
    Ob.d fun c => r_indexAddr rfl Try.underlying22 Try.sizeOf45 (c.n 0 rfl) r1.isSl (c.n 1 rfl) (by first | omega | (simp only [List.length_append, Array.length_toList, ByteArray.size_data, ByteArray.size_extract, List.length_set, ByteArray.size_append]; omega)) (by first | omega | (simp only [List.length_append, Array.length_toList, ByteArray.size_data, ByteArray.size_extract, List.length_set, ByteArray.size_append]; omega)),
    Ob.d fun c => r_fieldAddr rfl Try.underlying45 rfl rfl Try.sizeOf43 (c.n 2 rfl),
    Ob.d fun c => r_fieldAddr rfl Try.underlying43 rfl rfl Try.sizeOf3 (c.n 3 rfl),
    Ob.d fun c => r_load1 rfl Try.isAgg3 (c.n 4 rfl) (by have h_ := ((c.io 1 rfl).1.sl).elem (j := 1) (nth_some (i := (k : Int)) (by first | omega | (simp only [List.length_append, Array.length_toList, ByteArray.size_data, ByteArray.size_extract, List.length_set, ByteArray.size_append]; omega)) (by first | omega | (simp only [List.length_append, Array.length_toList, ByteArray.size_data, ByteArray.size_extract, List.length_set, ByteArray.size_append]; omega))) rfl; rw [add_add] at h_; rw [add_add, add_add]; exact h_),
    Ob.d fun c => r_assign rfl (c.n 5 rfl), trivial⟩ ?_
   intro a20 w20 τ20 st20 f20
   obtain ⟨e0, e4, e5, e7, e8, e9, e11, e12, e13, e26, e103, -⟩ := f20.ks [(0, _), (4, _), (5, _), (7, _), (8, _), (9, _), (11, _), (12, _), (13, _), (26, _), (103, _)] ⟨e0, e4, e5, e7, e8, e9, e11, e12, e13, e26, e103, trivial⟩
   have e10 : get a20 10 = (.int .i64 ((nth (isort ltE xs) ((k : Int))).2.1)) := f20.v 6 rfl
   replace r0 := f20.io 0 rfl
   replace r1 := f20.io 1 rfl
   replace r2 := f20.ib 2 rfl
   replace r3 := f20.io 3 rfl
   clear f20
   show _
   show Code.wp _ _ _ a20 w20
   refine region_St (bf := [0, 1, 3]) (sp := [det _ 27 _, det _ 28 _, det _ 11 _]) [io r0, io r1, ib r2, io r3] mixed st20 (by kernel_rfl) ⟨r0, r1, r2, r3, trivial⟩
    ⟨Ob.d fun c => r_move rfl (c.p e11),
    Ob.d fun c => r_add rfl (c.n 0 rfl) rfl (by first | omega | (simp only [List.length_append, Array.length_toList, ByteArray.size_data, ByteArray.size_extract, List.length_set, ByteArray.size_append]; omega)),
    Ob.d fun c => r_assign rfl (c.n 1 rfl), trivial⟩ ?_
   intro a21 w21 τ21 st21 f21
   obtain ⟨e0, e4, e5, e7, e8, e9, e10, e12, e13, e26, e103, -⟩ := f21.ks [(0, _), (4, _), (5, _), (7, _), (8, _), (9, _), (10, _), (12, _), (13, _), (26, _), (103, _)] ⟨e0, e4, e5, e7, e8, e9, e10, e12, e13, e26, e103, trivial⟩
   have e11 : get a21 11 = (.int .i64 ((k : Int) + 1)) := f21.v 2 rfl
   replace r0 := f21.io 0 rfl
   replace r1 := f21.io 1 rfl
   replace r2 := f21.ib 2 rfl
   replace r3 := f21.io 3 rfl
   clear f21
   refine ⟨⟨k + 1, b19x8, τ21, ?_, st21, e8, (e9.trans (int_eq (by first | omega | rfl | (rw [back_by (by omega)]; first | omega | (rw [hlw (by omega)])) | exact (back_last (by omega)).symm))), (e10.trans (int_eq (by first | omega | rfl | (rw [back_by (by omega)]; first | omega | (rw [hlw (by omega)])) | exact (back_last (by omega)).symm))), (e11.trans (int_eq (by first | omega | rfl | (rw [back_by (by omega)]; first | omega | (rw [hlw (by omega)])) | exact (back_last (by omega)).symm))), e0, e4, e5, e7, ?_, r1⟩, ?_⟩
   · omega
   · exact r0.cast (by first | exact back_hit (by omega) (back_cond (by assumption)) | exact back_miss (by omega) (back_cond (by assumption)))
   · simp only [m11, e11, intOf]; omega
 try simp only [decide_eq_false_iff_not, Int.not_lt] at hc2
 refine wp_exit ?_
 repeat (with_reducible refine then_exit ?_)
 refine exit_here ?_
 show Code.wp _ _ _ a10 w10
 refine wp_seq ?_
 refine region_St (bf := [0, 1, 3]) (sp := [det _ 137 _, det _ 4 _, det _ 5 _]) [io r0, io r1] mixed st10 (by kernel_rfl) ⟨r0, r1, trivial⟩
  ⟨Ob.d fun c => r_move rfl (c.p e8),
  Ob.d fun c => r_assign rfl (c.n 0 rfl),
  Ob.d fun c => r_assign rfl rfl, trivial⟩ ?_
 intro a22 w22 τ22 st22 f22
 have e4 : get a22 4 = u := f22.v 1 rfl
 have e5 : get a22 5 = (.int .i64 (0)) := f22.v 2 rfl
 replace r0 := f22.io 0 rfl
 clear f22
 show Code.wp _ _ _ a22 w22
 refine wp_ret ?_
 repeat (first | with_reducible refine then_ret ?_ | with_reducible refine block_ret ?_)
 refine ret2 (fn := Try.f18) rfl st22.defers e4 e5 ?_
 have e2_ : mayEd (s.size : Int) xs = 0 := by assumption
 have e1_ : backF s xs = (backS s ((isort ltE xs).take k)).1 := by rw [backF, if_pos e2_, List.take_of_length_le (by omega)]; rfl
 rw [e1_, e2_]
 exact ⟨_, rfl, st22.ext0, r0.1, fun g_ h_ => (st22.bnd _ g_ (r0.2 g_ h_)).1⟩
end B
end Go.Proofs.Ytfkjmkngiiokmaa
