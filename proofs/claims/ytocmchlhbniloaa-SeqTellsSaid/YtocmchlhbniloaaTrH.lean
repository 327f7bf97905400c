/-
  Walks, printed by a program (gen.py): TrH.
-/
import Derived.Test.YtocmchlhbniloaaTrG
set_option linter.unusedSimpArgs false
set_option linter.unusedVariables false
namespace Go.Proofs.Ytocmchlhbniloaa
namespace B
open Go.RowKit
open Srt
theorem is_yes {α : Type} [BEq α] [LawfulBEq α] [Inhabited α] {xs : List α} {x : α} {k : Nat} (h : k < xs.length) (hc : x = nth xs (k : Int)) : xs.contains x = true := by
  rw [List.contains_iff_mem, hc]; exact nth_memL h
theorem is_no {xs : List Int} {x : Int} {k : Nat} (h : xs.length ≤ k) (hq : x ∉ xs.take k) : xs.contains x = false := by
  rw [List.take_of_length_le h] at hq
  rw [← Bool.not_eq_true, List.contains_iff_mem]; exact hq
theorem is_step {xs : List Int} {x : Int} {k : Nat} (h : k < xs.length) (hq : x ∉ xs.take k) (hc : ¬ x = nth xs (k : Int)) : x ∉ xs.take (k + 1) := by
  rw [take_snoc h, List.mem_append]
  rintro (h1 | h1)
  · exact hq h1
  · simp at h1; exact hc h1
def idx (xs : List Int) (x : Int) : Int := if xs.contains x = true then 0 else -1
def repB (k : Int) : Bool := decide (k = 2) || (decide (k = 3) || (decide (k = 4) || (decide (k = 5) || decide (k = 6))))

set_option maxRecDepth 100000 in
theorem repeated_c (k : Int) (w : World) : Calls Try.prog 53 #[(.int .i64 (k))] w (fun e w' => e = .returned (.bool (repB k)) ∧ Ext none' w w') := by
 refine enter (n := 10) Try.func53 rfl rfl (Nat.le_of_ble_eq_true rfl) ?_
 intro a0 τ0 ha st0
 have e0 : get a0 0 = (.int .i64 (k)) := ha 0 _ rfl
 clear ha
 refine wp_seq ?_
 refine region_St (bf := [0]) (sp := [det _ 2 _]) [] mixed st0 (by kernel_rfl) trivial
  ⟨Ob.d fun c => r_assign rfl rfl, trivial⟩ ?_
 intro a1 w1 τ1 st1 f1
 obtain ⟨e0, -⟩ := f1.ks [(0, _)] ⟨e0, trivial⟩
 have e2 : get a1 2 = (.bool (false)) := f1.v 0 rfl
 clear f1
 show Code.wp _ _ _ a1 w1
 refine wp_seq ?_
 refine wp_seq ?_
 refine region_St (bf := [0]) (sp := [det _ 3 _]) [] mixed st1 (by kernel_rfl) trivial
  ⟨Ob.d fun c => r_move rfl (c.p e0), trivial⟩ ?_
 intro a2 w2 τ2 st2 f2
 obtain ⟨e2, -⟩ := f2.ks [(2, _)] ⟨e2, trivial⟩
 have e3 : get a2 3 = (.int .i64 (k)) := f2.v 0 rfl
 clear f2
 show Code.wp _ _ _ a2 w2
 refine wp_block ?_
 refine wp_seq ?_
 refine wp_seq ?_
 refine region_St (bf := [0, 1]) (sp := [det _ 5 _, det _ 4 _]) [] mixed st2 (by kernel_rfl) trivial
  ⟨Ob.d fun c => r_eql rfl (c.p e3) rfl,
  Ob.d fun c => r_assign rfl (c.n 0 rfl), trivial⟩ ?_
 intro a3 w3 τ3 st3 f3
 obtain ⟨e2, e3, -⟩ := f3.ks [(2, _), (3, _)] ⟨e2, e3, trivial⟩
 have e4 : get a3 4 = (.bool (decide (k = 2))) := f3.v 1 rfl
 clear f3
 show Code.wp _ _ _ a3 w3
 refine wp_cond_split (t := decide (k = 2)) e4 (fun hc1 => ?_) (fun hc1 => ?_)
 · have hd1 := hc1; try simp only [decide_eq_true_eq] at hd1
   refine wp_skip ?_
   show Code.wp _ _ _ a3 w3
   refine wp_cond_true (e4.trans (congrArg _ hc1)) ?_
   refine wp_seq ?_
   refine region_St (bf := [0]) (sp := [det _ 2 _]) [] mixed st3 (by kernel_rfl) trivial
    ⟨Ob.d fun c => r_assign rfl rfl, trivial⟩ ?_
   intro a4 w4 τ4 st4 f4
   have e2 : get a4 2 = (.bool (true)) := f4.v 0 rfl
   clear f4
   show Code.wp _ _ _ a4 w4
   refine wp_ret ?_
   repeat (first | with_reducible refine then_ret ?_ | with_reducible refine block_ret ?_)
   refine ret1 (fn := Try.f53) rfl st4.defers e2 ?_
   exact ⟨congrArg _ (congrArg _ (by unfold repB; symm; simp; omega)), st4.ext0⟩
 have hd2 := hc1; try simp only [decide_eq_false_iff_not] at hd2
 refine wp_seq ?_
 refine region_St (bf := [0, 1]) (sp := [det _ 6 _, det _ 4 _]) [] mixed st3 (by kernel_rfl) trivial
  ⟨Ob.d fun c => r_eql rfl (c.p e3) rfl,
  Ob.d fun c => r_assign rfl (c.n 0 rfl), trivial⟩ ?_
 intro a5 w5 τ5 st5 f5
 obtain ⟨e2, e3, -⟩ := f5.ks [(2, _), (3, _)] ⟨e2, e3, trivial⟩
 have e4 : get a5 4 = (.bool (decide (k = 3))) := f5.v 1 rfl
 clear f5
 show Code.wp _ _ _ a5 w5
 refine wp_cond_split (t := decide (k = 3)) e4 (fun hc3 => ?_) (fun hc3 => ?_)
 · have hd3 := hc3; try simp only [decide_eq_true_eq] at hd3
   refine wp_skip ?_
   show Code.wp _ _ _ a5 w5
   refine wp_cond_true (e4.trans (congrArg _ hc3)) ?_
   refine wp_seq ?_
   refine region_St (bf := [0]) (sp := [det _ 2 _]) [] mixed st5 (by kernel_rfl) trivial
    ⟨Ob.d fun c => r_assign rfl rfl, trivial⟩ ?_
   intro a6 w6 τ6 st6 f6
   have e2 : get a6 2 = (.bool (true)) := f6.v 0 rfl
   clear f6
   show Code.wp _ _ _ a6 w6
   refine wp_ret ?_
   repeat (first | with_reducible refine then_ret ?_ | with_reducible refine block_ret ?_)
   refine ret1 (fn := Try.f53) rfl st6.defers e2 ?_
   exact ⟨congrArg _ (congrArg _ (by unfold repB; symm; simp; omega)), st6.ext0⟩
 have hd4 := hc3; try simp only [decide_eq_false_iff_not] at hd4
 refine wp_seq ?_
 refine region_St (bf := [0, 1]) (sp := [det _ 7 _, det _ 4 _]) [] mixed st5 (by kernel_rfl) trivial
  ⟨Ob.d fun c => r_eql rfl (c.p e3) rfl,
  Ob.d fun c => r_assign rfl (c.n 0 rfl), trivial⟩ ?_
 intro a7 w7 τ7 st7 f7
 obtain ⟨e2, e3, -⟩ := f7.ks [(2, _), (3, _)] ⟨e2, e3, trivial⟩
 have e4 : get a7 4 = (.bool (decide (k = 4))) := f7.v 1 rfl
 clear f7
 show Code.wp _ _ _ a7 w7
 refine wp_cond_split (t := decide (k = 4)) e4 (fun hc5 => ?_) (fun hc5 => ?_)
 · have hd5 := hc5; try simp only [decide_eq_true_eq] at hd5
   refine wp_skip ?_
   show Code.wp _ _ _ a7 w7
   refine wp_cond_true (e4.trans (congrArg _ hc5)) ?_
   refine wp_seq ?_
   refine region_St (bf := [0]) (sp := [det _ 2 _]) [] mixed st7 (by kernel_rfl) trivial
    ⟨Ob.d fun c => r_assign rfl rfl, trivial⟩ ?_
   intro a8 w8 τ8 st8 f8
   have e2 : get a8 2 = (.bool (true)) := f8.v 0 rfl
   clear f8
   show Code.wp _ _ _ a8 w8
   refine wp_ret ?_
   repeat (first | with_reducible refine then_ret ?_ | with_reducible refine block_ret ?_)
   refine ret1 (fn := Try.f53) rfl st8.defers e2 ?_
   exact ⟨congrArg _ (congrArg _ (by unfold repB; symm; simp; omega)), st8.ext0⟩
 have hd6 := hc5; try simp only [decide_eq_false_iff_not] at hd6
 refine wp_seq ?_
 refine region_St (bf := [0, 1]) (sp := [det _ 8 _, det _ 4 _]) [] mixed st7 (by kernel_rfl) trivial
  ⟨Ob.d fun c => r_eql rfl (c.p e3) rfl,
  Ob.d fun c => r_assign rfl (c.n 0 rfl), trivial⟩ ?_
 intro a9 w9 τ9 st9 f9
 obtain ⟨e2, e3, -⟩ := f9.ks [(2, _), (3, _)] ⟨e2, e3, trivial⟩
 have e4 : get a9 4 = (.bool (decide (k = 5))) := f9.v 1 rfl
 clear f9
 show Code.wp _ _ _ a9 w9
 refine wp_cond_split (t := decide (k = 5)) e4 (fun hc7 => ?_) (fun hc7 => ?_)
 · have hd7 := hc7; try simp only [decide_eq_true_eq] at hd7
   refine wp_skip ?_
   show Code.wp _ _ _ a9 w9
   refine wp_cond_true (e4.trans (congrArg _ hc7)) ?_
   refine wp_seq ?_
   refine region_St (bf := [0]) (sp := [det _ 2 _]) [] mixed st9 (by kernel_rfl) trivial
    ⟨Ob.d fun c => r_assign rfl rfl, trivial⟩ ?_
   intro a10 w10 τ10 st10 f10
   have e2 : get a10 2 = (.bool (true)) := f10.v 0 rfl
   clear f10
   show Code.wp _ _ _ a10 w10
   refine wp_ret ?_
   repeat (first | with_reducible refine then_ret ?_ | with_reducible refine block_ret ?_)
   refine ret1 (fn := Try.f53) rfl st10.defers e2 ?_
   exact ⟨congrArg _ (congrArg _ (by unfold repB; symm; simp; omega)), st10.ext0⟩
 have hd8 := hc7; try simp only [decide_eq_false_iff_not] at hd8
 refine region_St (bf := [0, 1]) (sp := [det _ 9 _, det _ 4 _]) [] mixed st9 (by kernel_rfl) trivial
  ⟨Ob.d fun c => r_eql rfl (c.p e3) rfl,
  Ob.d fun c => r_assign rfl (c.n 0 rfl), trivial⟩ ?_
 intro a11 w11 τ11 st11 f11
 obtain ⟨e2, -⟩ := f11.ks [(2, _)] ⟨e2, trivial⟩
 have e4 : get a11 4 = (.bool (decide (k = 6))) := f11.v 1 rfl
 clear f11
 show Code.wp _ _ _ a11 w11
 refine wp_cond_split (t := decide (k = 6)) e4 (fun hc9 => ?_) (fun hc9 => ?_)
 · have hd9 := hc9; try simp only [decide_eq_true_eq] at hd9
   refine wp_seq ?_
   refine region_St (bf := [0]) (sp := [det _ 2 _]) [] mixed st11 (by kernel_rfl) trivial
    ⟨Ob.d fun c => r_assign rfl rfl, trivial⟩ ?_
   intro a12 w12 τ12 st12 f12
   have e2 : get a12 2 = (.bool (true)) := f12.v 0 rfl
   clear f12
   show Code.wp _ _ _ a12 w12
   refine wp_ret ?_
   repeat (first | with_reducible refine then_ret ?_ | with_reducible refine block_ret ?_)
   refine ret1 (fn := Try.f53) rfl st12.defers e2 ?_
   exact ⟨congrArg _ (congrArg _ (by unfold repB; symm; simp; omega)), st12.ext0⟩
 have hd9 := hc9; try simp only [decide_eq_false_iff_not] at hd9
 refine wp_skip ?_
 show _
 show Code.wp _ _ _ a11 w11
 refine wp_seq ?_
 refine region_St (bf := [0]) (sp := [det _ 2 _]) [] mixed st11 (by kernel_rfl) trivial
  ⟨Ob.d fun c => r_assign rfl rfl, trivial⟩ ?_
 intro a13 w13 τ13 st13 f13
 have e2 : get a13 2 = (.bool (false)) := f13.v 0 rfl
 clear f13
 show Code.wp _ _ _ a13 w13
 refine wp_ret ?_
 repeat (first | with_reducible refine then_ret ?_ | with_reducible refine block_ret ?_)
 refine ret1 (fn := Try.f53) rfl st13.defers e2 ?_
 exact ⟨congrArg _ (congrArg _ (by unfold repB; symm; simp; omega)), st13.ext0⟩

set_option maxRecDepth 100000 in
theorem ixInt_c (v : Value) (xs : List Int) (x : Int) (w : World) (hS : SlT IntE w v xs) : Calls Try.prog 67 #[v, (.int .i64 (x))] w (fun e w' => e = .returned (.int .i64 (ixF (fun y => decide (x = y)) xs)) ∧ Ext none' w w') := by
 refine enter (n := 19) Try.func67 rfl rfl (Nat.le_of_ble_eq_true rfl) ?_
 intro a0 τ0 ha st0
 have e0 : get a0 0 = v := ha 0 _ rfl
 have e1 : get a0 1 = (.int .i64 (x)) := ha 1 _ rfl
 clear ha
 have hle := hS.le
 refine wp_seq ?_
 refine region_St (bf := [0]) (sp := [det _ 4 _]) [] mixed st0 (by kernel_rfl) trivial
  ⟨Ob.d fun c => r_assign rfl rfl, trivial⟩ ?_
 intro a1 w1 τ1 st1 f1
 obtain ⟨e0, e1, -⟩ := f1.ks [(0, _), (1, _)] ⟨e0, e1, trivial⟩
 have e4 : get a1 4 = (.int .i64 (0)) := f1.v 0 rfl
 clear f1
 show Code.wp _ _ _ a1 w1
 refine wp_seq ?_
 refine wp_seq ?_
 refine region_St (bf := [0, 1, 0]) (sp := [det _ 6 _, det _ 7 _, det _ 8 _]) [] mixed st1 (by kernel_rfl) trivial
  ⟨Ob.d fun c => r_move rfl (c.p e0),
  Ob.d fun c => r_len rfl Try.underlying70 (c.n 0 rfl) hS.sl,
  Ob.d fun c => r_move rfl rfl, trivial⟩ ?_
 intro a2 w2 τ2 st2 f2
 obtain ⟨e0, e1, e4, -⟩ := f2.ks [(0, _), (1, _), (4, _)] ⟨e0, e1, e4, trivial⟩
 have e7 : get a2 7 = (.int .i64 ((xs.length : Int))) := f2.v 1 rfl
 have e8 : get a2 8 = (.int .i64 (0)) := f2.v 2 rfl
 clear f2
 show Code.wp _ _ _ a2 w2
 refine wp_block ?_
 refine wp_loop (fun a_ w_ => ∃ (k : Nat) (τ : Nat → Foot), (k ≤ xs.length) ∧
      (∀ y ∈ xs.take k, decide (x = y) = false) ∧
      St (Nw w) w 19 a_ w_ τ ∧
      get a_ 8 = (.int .i64 ((k : Int))) ∧
      get a_ 0 = v ∧
      get a_ 1 = (.int .i64 (x)) ∧
      get a_ 7 = (.int .i64 ((xs.length : Int)))) (fun a_ _ => xs.length - (intOf (get a_ 8)).toNat) ?_ ?_
 · refine ⟨0, τ2, ?_, ?_, st2, (e8.trans (int_eq (by omega))), e0, e1, e7⟩
   · omega
   · simp
 intro a3 w3 hI
 obtain ⟨k, τ3, q0, q1, st3, e8, e0, e1, e7⟩ := hI
 have m8 := e8
 refine wp_seq ?_
 refine region_St (bf := [0]) (sp := [det _ 9 _]) [] mixed st3 (by kernel_rfl) trivial
  ⟨Ob.d fun c => r_lss rfl (c.p e8) (c.p e7), trivial⟩ ?_
 intro a4 w4 τ4 st4 f4
 obtain ⟨e0, e1, e7, e8, -⟩ := f4.ks [(0, _), (1, _), (7, _), (8, _)] ⟨e0, e1, e7, e8, trivial⟩
 have e9 : get a4 9 = (.bool (decide ((k : Int) < (xs.length : Int)))) := f4.v 0 rfl
 clear f4
 show Code.wp _ _ _ a4 w4
 refine wp_seq ?_
 refine wp_cond_split (t := decide ((k : Int) < (xs.length : Int))) e9 (fun hc1 => ?_) (fun hc1 => ?_)
 · try simp only [decide_eq_true_eq] at hc1
   refine wp_skip ?_
   show Code.wp _ _ _ a4 w4
   refine wp_seq ?_
   refine wp_block ?_
   refine wp_seq ?_
   refine region_St (bf := [0, 1]) (sp := [det _ 10 _, det _ 5 _]) [] mixed st4 (by kernel_rfl) trivial
    ⟨Ob.d fun c => r_move rfl (c.p e8),
    Ob.d fun c => r_assign rfl (c.n 0 rfl), trivial⟩ ?_
   intro a5 w5 τ5 st5 f5
   obtain ⟨e0, e1, e7, e8, e9, -⟩ := f5.ks [(0, _), (1, _), (7, _), (8, _), (9, _)] ⟨e0, e1, e7, e8, e9, trivial⟩
   have e5 : get a5 5 = (.int .i64 ((k : Int))) := f5.v 1 rfl
   clear f5
   show Code.wp _ _ _ a5 w5
   refine wp_seq ?_
   refine region_St (bf := [0, 0, 0, 6, 14, 31]) (sp := [det _ 11 _, det _ 12 _, det _ 13 _, det _ 14 _, det _ 15 _, det _ 16 _]) [] mixed st5 (by kernel_rfl) trivial
    ⟨Ob.d fun c => r_move rfl (c.p e1),
    Ob.d fun c => r_move rfl (c.p e0),
    Ob.d fun c => r_move rfl (c.p e5),
    Ob.d fun c => r_indexAddr rfl Try.underlying70 Try.sizeOf3 (c.n 1 rfl) hS.sl (c.n 2 rfl) (by omega) (by omega),
    Ob.d fun c => r_load1 rfl Try.isAgg3 (c.n 3 rfl) (((hS.at (st5.ext.trans c.J.ext))).elem (j := 0) (nth_some (i := (k : Int)) (by omega) (by omega)) rfl),
    Ob.d fun c => r_eql rfl (c.n 0 rfl) (c.n 4 rfl), trivial⟩ ?_
   intro a6 w6 τ6 st6 f6
   obtain ⟨e0, e1, e5, e7, e8, e9, -⟩ := f6.ks [(0, _), (1, _), (5, _), (7, _), (8, _), (9, _)] ⟨e0, e1, e5, e7, e8, e9, trivial⟩
   have e16 : get a6 16 = (.bool (decide (x = (nth xs ((k : Int)))))) := f6.v 5 rfl
   clear f6
   show Code.wp _ _ _ a6 w6
   refine wp_cond_split (t := decide (x = (nth xs ((k : Int))))) e16 (fun hc2 => ?_) (fun hc2 => ?_)
   · have hd2 := hc2; try simp only [decide_eq_true_eq] at hd2
     refine wp_seq ?_
     refine region_St (bf := [0, 1]) (sp := [det _ 17 _, det _ 4 _]) [] mixed st6 (by kernel_rfl) trivial
      ⟨Ob.d fun c => r_move rfl (c.p e5),
      Ob.d fun c => r_assign rfl (c.n 0 rfl), trivial⟩ ?_
     intro a7 w7 τ7 st7 f7
     obtain ⟨e0, e1, e5, e7, e8, e9, e16, -⟩ := f7.ks [(0, _), (1, _), (5, _), (7, _), (8, _), (9, _), (16, _)] ⟨e0, e1, e5, e7, e8, e9, e16, trivial⟩
     have e4 : get a7 4 = (.int .i64 ((k : Int))) := f7.v 1 rfl
     clear f7
     show Code.wp _ _ _ a7 w7
     refine wp_ret ?_
     repeat (first | with_reducible refine then_ret ?_ | with_reducible refine block_ret ?_)
     refine ret1 (fn := Try.f67) rfl st7.defers e4 ?_
     exact ⟨congrArg _ (int_eq (by first | exact (ix_hit (f := fun y => decide (x = y)) (by omega) q1 (by assumption)).symm | exact (ix_miss (f := fun y => decide (x = y)) (k := k) (by omega) q1).symm)), st7.ext0⟩
   have hd2 := hc2; try simp only [decide_eq_false_iff_not] at hd2
   refine wp_skip ?_
   show _
   show Code.wp _ _ _ a6 w6
   refine region_St (bf := [0, 1]) (sp := [det _ 18 _, det _ 8 _]) [] mixed st6 (by kernel_rfl) trivial
    ⟨Ob.d fun c => r_add rfl (c.p e8) rfl (by omega),
    Ob.d fun c => r_move rfl (c.n 0 rfl), trivial⟩ ?_
   intro a8 w8 τ8 st8 f8
   obtain ⟨e0, e1, e5, e7, e9, e16, -⟩ := f8.ks [(0, _), (1, _), (5, _), (7, _), (9, _), (16, _)] ⟨e0, e1, e5, e7, e9, e16, trivial⟩
   have e8 : get a8 8 = (.int .i64 ((k : Int) + 1)) := f8.v 1 rfl
   clear f8
   refine ⟨⟨k + 1, τ8, ?_, ?_, st8, (e8.trans (int_eq (by omega))), e0, e1, e7⟩, ?_⟩
   · omega
   · exact ix_step (f := fun y => decide (x = y)) (by omega) q1 (by assumption)
   · simp only [m8, e8, intOf]; omega
 try simp only [decide_eq_false_iff_not, Int.not_lt] at hc1
 refine wp_exit ?_
 repeat (with_reducible refine then_exit ?_)
 refine exit_here ?_
 show Code.wp _ _ _ a4 w4
 refine wp_seq ?_
 refine region_St (bf := [0]) (sp := [det _ 4 _]) [] mixed st4 (by kernel_rfl) trivial
  ⟨Ob.d fun c => r_assign rfl rfl, trivial⟩ ?_
 intro a9 w9 τ9 st9 f9
 have e4 : get a9 4 = (.int .i64 ((-1))) := f9.v 0 rfl
 clear f9
 show Code.wp _ _ _ a9 w9
 refine wp_ret ?_
 repeat (first | with_reducible refine then_ret ?_ | with_reducible refine block_ret ?_)
 refine ret1 (fn := Try.f67) rfl st9.defers e4 ?_
 exact ⟨congrArg _ (int_eq (by first | exact (ix_hit (f := fun y => decide (x = y)) (by omega) q1 (by assumption)).symm | exact (ix_miss (f := fun y => decide (x = y)) (k := k) (by omega) q1).symm)), st9.ext0⟩

set_option maxRecDepth 100000 in
theorem hasInt_c (v : Value) (xs : List Int) (x : Int) (w : World) (hS : SlT IntE w v xs) : Calls Try.prog 62 #[v, (.int .i64 (x))] w (fun e w' => e = .returned (.bool (xs.any fun y => decide (x = y))) ∧ Ext none' w w') := by
 refine enter (n := 9) Try.func62 rfl rfl (Nat.le_of_ble_eq_true rfl) ?_
 intro a0 τ0 ha st0
 have e0 : get a0 0 = v := ha 0 _ rfl
 have e1 : get a0 1 = (.int .i64 (x)) := ha 1 _ rfl
 clear ha
 have hle := hS.le
 refine wp_seq ?_
 refine region_St (bf := [0]) (sp := [det _ 4 _]) [] mixed st0 (by kernel_rfl) trivial
  ⟨Ob.d fun c => r_assign rfl rfl, trivial⟩ ?_
 intro a1 w1 τ1 st1 f1
 obtain ⟨e0, e1, -⟩ := f1.ks [(0, _), (1, _)] ⟨e0, e1, trivial⟩
 have e4 : get a1 4 = (.bool (false)) := f1.v 0 rfl
 clear f1
 show Code.wp _ _ _ a1 w1
 refine wp_seq ?_
 refine region_St (bf := [0, 0, 3, 7, 15]) (sp := [det _ 5 _, det _ 6 _, det _ 7 _, det _ 8 _, det _ 4 _]) [] mixed st1 (by kernel_rfl) trivial
  ⟨Ob.d fun c => r_move rfl (c.p e0),
  Ob.d fun c => r_move rfl (c.p e1),
  Ob.c fun c => ⟨_, _, (e_call2 rfl rfl Try.call67 (c.n 0 rfl) (c.n 1 rfl)), ixInt_c v xs x _ (hS.at (st1.ext.trans c.J.ext))⟩,
  Ob.d fun c => r_geq rfl (c.n 2 rfl) rfl,
  Ob.d fun c => r_assign rfl (c.n 3 rfl), trivial⟩ ?_
 intro a2 w2 τ2 st2 f2
 have e4 : get a2 4 = (.bool (decide (0 ≤ ixF (fun y => decide (x = y)) xs))) := f2.v 4 rfl
 clear f2
 show Code.wp _ _ _ a2 w2
 refine wp_ret ?_
 repeat (first | with_reducible refine then_ret ?_ | with_reducible refine block_ret ?_)
 refine ret1 (fn := Try.f62) rfl st2.defers e4 ?_
 exact ⟨congrArg _ (congrArg _ (ix_any _ _)), st2.ext0⟩
end B
end Go.Proofs.Ytocmchlhbniloaa
