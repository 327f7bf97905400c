/-
  Walks, printed by a program (gen.py): SetC.
-/
import Derived.Test.YthaeepiichphjaaSetB
import Derived.Test.YthaeepiichphjaaSort3
set_option linter.unusedSimpArgs false
set_option linter.unusedVariables false
namespace Go.Proofs.Ythaeepiichphjaa
namespace B
open Go.RowKit
open Srt
def rowSymC (d : Nat) : Prop := ∀ (v : Value) (xs : List (ByteArray × ByteArray)) (a m b : Nat) (w : World), OwnT RowE 36 w v xs → a < m → m < b → b ≤ xs.length → xs.length ≤ 1000000000000 → b - a ≤ d → Sorted ltR (seg xs a m) → Sorted ltR (seg xs m b) →
    Calls Try.prog 43 #[v, .int .i64 (a : Int), .int .i64 (m : Int), .int .i64 (b : Int), (.func (.func 28) #[] #[])] w (fun e w' => e = .returned (.tuple #[]) ∧ OwnT RowE 36 w' v (mF ltR xs a m b) ∧ Ext (fun k => v.ownBlock = some k) w w')

set_option maxRecDepth 100000 in
set_option maxHeartbeats 8000000 in
theorem rowSym_step {d : Nat} (ih : rowSymC d) (v : Value) (xs : List (ByteArray × ByteArray)) (a m b : Nat) (w : World) (ho : OwnT RowE 36 w v xs) (h1 : a < m) (h2 : m < b) (h3 : b ≤ xs.length) (hbig : xs.length ≤ 1000000000000) (hd : b - a ≤ d + 1) (hS1 : Sorted ltR (seg xs a m)) (hS2 : Sorted ltR (seg xs m b)) :
    Calls Try.prog 43 #[v, .int .i64 (a : Int), .int .i64 (m : Int), .int .i64 (b : Int), (.func (.func 28) #[] #[])] w (fun e w' => e = .returned (.tuple #[]) ∧ OwnT RowE 36 w' v (mF ltR xs a m b) ∧ Ext (fun k => v.ownBlock = some k) w w') := by
 refine enterIn (fun g => v.ownBlock = some g) (fun g hg => ho.lt g hg) (n := 220) Try.func43 rfl rfl (Nat.le_of_ble_eq_true rfl) ?_
 intro a0 τ0 ha hτ st0
 have e0 : get a0 0 = v := ha 0 _ rfl
 have e1 : get a0 1 = (.int .i64 ((a : Int))) := ha 1 _ rfl
 have e2 : get a0 2 = (.int .i64 ((m : Int))) := ha 2 _ rfl
 have e3 : get a0 3 = (.int .i64 ((b : Int))) := ha 3 _ rfl
 have e4 : get a0 4 = (.func (.func 28) #[] #[]) := ha 4 _ rfl
 clear ha
 have r0 : ownR RowE 36 xs (τ0 0) v w := ⟨ho, fun g hg => by rw [hτ]; exact hg⟩
 have hle := r0.le
 refine wp_seq ?_
 refine wp_seq ?_
 refine region_St (bf := [0, 0, 3, 7]) (sp := [det _ 25 _, det _ 26 _, det _ 27 _, det _ 28 _]) [io r0] mixed st0 (by kernel_rfl) ⟨r0, trivial⟩
  ⟨Ob.d fun c => r_move rfl (c.p e2),
  Ob.d fun c => r_move rfl (c.p e1),
  Ob.d fun c => r_sub rfl (c.n 0 rfl) (c.n 1 rfl) (by omega),
  Ob.d fun c => r_eql rfl (c.n 2 rfl) rfl, trivial⟩ ?_
 intro a1 w1 τ1 st1 f1
 obtain ⟨e0, e1, e2, e3, e4, -⟩ := f1.ks [(0, _), (1, _), (2, _), (3, _), (4, _)] ⟨e0, e1, e2, e3, e4, trivial⟩
 have e28 : get a1 28 = (.bool (decide ((m : Int) - (a : Int) = 1))) := f1.v 3 rfl
 replace r0 := f1.io 0 rfl
 clear f1
 show Code.wp _ _ _ a1 w1
 refine wp_cond_split (t := decide ((m : Int) - (a : Int) = 1)) e28 (fun hc1 => ?_) (fun hc1 => ?_)
 · try simp only [decide_eq_true_eq] at hc1
   refine wp_seq ?_
   refine region_St (bf := [0, 1]) (sp := [det _ 29 _, det _ 10 _]) [io r0] mixed st1 (by kernel_rfl) ⟨r0, trivial⟩
    ⟨Ob.d fun c => r_move rfl (c.p e2),
    Ob.d fun c => r_assign rfl (c.n 0 rfl), trivial⟩ ?_
   intro a2 w2 τ2 st2 f2
   obtain ⟨e0, e1, e2, e3, e4, -⟩ := f2.ks [(0, _), (1, _), (2, _), (3, _), (4, _)] ⟨e0, e1, e2, e3, e4, trivial⟩
   have e10 : get a2 10 = (.int .i64 ((m : Int))) := f2.v 1 rfl
   replace r0 := f2.io 0 rfl
   clear f2
   show Code.wp _ _ _ a2 w2
   refine wp_seq ?_
   refine region_St (bf := [0, 1]) (sp := [det _ 30 _, det _ 11 _]) [io r0] mixed st2 (by kernel_rfl) ⟨r0, trivial⟩
    ⟨Ob.d fun c => r_move rfl (c.p e3),
    Ob.d fun c => r_assign rfl (c.n 0 rfl), trivial⟩ ?_
   intro a3 w3 τ3 st3 f3
   obtain ⟨e0, e1, e2, e3, e4, e10, -⟩ := f3.ks [(0, _), (1, _), (2, _), (3, _), (4, _), (10, _)] ⟨e0, e1, e2, e3, e4, e10, trivial⟩
   have e11 : get a3 11 = (.int .i64 ((b : Int))) := f3.v 1 rfl
   replace r0 := f3.io 0 rfl
   clear f3
   show Code.wp _ _ _ a3 w3
   refine wp_seq ?_
   refine wp_block ?_
   refine wp_loop (fun a_ w_ => ∃ (i j : Nat) (τ : Nat → Foot), (m ≤ i) ∧
          (i ≤ j) ∧
          (j ≤ b) ∧
          (i = m ∨ ltR (nth xs ((i : Int) - 1)) (nth xs (a : Int)) = true) ∧
          (j = b ∨ ltR (nth xs (j : Int)) (nth xs (a : Int)) = false) ∧
          St (fun k => v.ownBlock = some k ∨ w.heap.size ≤ k) w 220 a_ w_ τ ∧
          get a_ 10 = (.int .i64 ((i : Int))) ∧
          get a_ 11 = (.int .i64 ((j : Int))) ∧
          get a_ 0 = v ∧
          get a_ 1 = (.int .i64 ((a : Int))) ∧
          get a_ 2 = (.int .i64 ((m : Int))) ∧
          get a_ 3 = (.int .i64 ((b : Int))) ∧
          get a_ 4 = (.func (.func 28) #[] #[]) ∧
          ownR RowE 36 (xs) (τ 0) v w_) (fun a_ _ => (intOf (get a_ 11)).toNat - (intOf (get a_ 10)).toNat) ?_ ?_
   · refine ⟨m, b, τ3, ?_, ?_, ?_, ?_, ?_, st3, (e10.trans (int_eq (by omega))), (e11.trans (int_eq (by omega))), e0, e1, e2, e3, e4, r0⟩
     · omega
     · omega
     · omega
     · left; rfl
     · left; rfl
   intro a4 w4 hI
   obtain ⟨i, j, τ4, q0, q1, q2, q3, q4, st4, e10, e11, e0, e1, e2, e3, e4, r0⟩ := hI
   have q_1 := q0; have q_3 := q2; have q_4 := q3; have q_5 := q4
   have m10 := e10
   have m11 := e11
   refine wp_seq ?_
   refine wp_seq ?_
   refine region_St (bf := [0, 0, 3]) (sp := [det _ 31 _, det _ 32 _, det _ 33 _]) [io r0] mixed st4 (by kernel_rfl) ⟨r0, trivial⟩
    ⟨Ob.d fun c => r_move rfl (c.p e10),
    Ob.d fun c => r_move rfl (c.p e11),
    Ob.d fun c => r_lss rfl (c.n 0 rfl) (c.n 1 rfl), trivial⟩ ?_
   intro a5 w5 τ5 st5 f5
   obtain ⟨e0, e1, e2, e3, e4, e10, e11, -⟩ := f5.ks [(0, _), (1, _), (2, _), (3, _), (4, _), (10, _), (11, _)] ⟨e0, e1, e2, e3, e4, e10, e11, trivial⟩
   have e33 : get a5 33 = (.bool (decide ((i : Int) < (j : Int)))) := f5.v 2 rfl
   replace r0 := f5.io 0 rfl
   clear f5
   show Code.wp _ _ _ a5 w5
   refine wp_cond_split (t := decide ((i : Int) < (j : Int))) e33 (fun hc2 => ?_) (fun hc2 => ?_)
   · try simp only [decide_eq_true_eq] at hc2
     refine wp_skip ?_
     show Code.wp _ _ _ a5 w5
     refine wp_block ?_
     refine wp_seq ?_
     refine region_St (bf := [0, 0, 3, 7, 15, 31, 63]) (sp := [det _ 34 _, det _ 35 _, det _ 36 _, det _ 37 _, det _ 38 _, det _ 39 _, det _ 12 _]) [io r0] mixed st5 (by kernel_rfl) ⟨r0, trivial⟩
      ⟨Ob.d fun c => r_move rfl (c.p e10),
      Ob.d fun c => r_move rfl (c.p e11),
      Ob.d fun c => r_add rfl (c.n 0 rfl) (c.n 1 rfl) (by omega),
      Ob.d fun c => r_convIn rfl Try.underlying3 Try.underlying49 (c.n 2 rfl) (by omega) (by omega) (by decide),
      Ob.d fun c => r_shr1 rfl (c.n 3 rfl) rfl,
      Ob.d fun c => r_convIn rfl Try.underlying49 Try.underlying3 (c.n 4 rfl) (by omega) (by omega) (by decide),
      Ob.d fun c => r_assign rfl (c.n 5 rfl), trivial⟩ ?_
     intro a6 w6 τ6 st6 f6
     obtain ⟨e0, e1, e2, e3, e4, e10, e11, e33, -⟩ := f6.ks [(0, _), (1, _), (2, _), (3, _), (4, _), (10, _), (11, _), (33, _)] ⟨e0, e1, e2, e3, e4, e10, e11, e33, trivial⟩
     have e12 : get a6 12 = (.int .i64 (((i : Int) + (j : Int)) / 2)) := f6.v 6 rfl
     replace r0 := f6.io 0 rfl
     clear f6
     obtain ⟨h, hh⟩ : ∃ x_ : Nat, ((i : Int) + (j : Int)) / 2 = (x_ : Int) := ⟨(i + j) / 2, by omega⟩
     replace e12 := e12.trans (int_eq hh)
     show Code.wp _ _ _ a6 w6
     refine wp_seq ?_
     refine region_St (bf := [0, 0, 0, 6, 14, 0, 0, 96, 224, 511, 1023]) (sp := [det _ 40 _, det _ 41 _, det _ 42 _, det _ 43 _, det _ 44 _, det _ 45 _, det _ 46 _, det _ 47 _, det _ 48 _, det _ 49 _, det _ 50 _]) [io r0] mixed st6 (by kernel_rfl) ⟨r0, trivial⟩
      ⟨Ob.d fun c => r_move rfl (c.p e4),
      Ob.d fun c => r_move rfl (c.p e0),
      Ob.d fun c => r_move rfl (c.p e12),
      Ob.d fun c => r_indexAddr rfl Try.underlying22 Try.sizeOf36 (c.n 1 rfl) r0.isSl (c.n 2 rfl) (by omega) (by omega),
      Ob.d fun c => r_loadN (vs := [(.string ((nth xs ((h : Int))).1)), (.string ((nth xs ((h : Int))).2))]) rfl Try.isAgg36 Try.sizeOf36 (c.n 3 rfl) rfl (fun _ _ hj => ((c.io 0 rfl).1.sl).elem (nth_some (i := (h : Int)) (by omega) (by omega)) hj),
      Ob.d fun c => r_move rfl (c.p e0),
      Ob.d fun c => r_move rfl (c.p e1),
      Ob.d fun c => r_indexAddr rfl Try.underlying22 Try.sizeOf36 (c.n 5 rfl) r0.isSl (c.n 6 rfl) (by omega) (by omega),
      Ob.d fun c => r_loadN (vs := [(.string ((nth xs ((a : Int))).1)), (.string ((nth xs ((a : Int))).2))]) rfl Try.isAgg36 Try.sizeOf36 (c.n 7 rfl) rfl (fun _ _ hj => ((c.io 0 rfl).1.sl).elem (nth_some (i := (a : Int)) (by omega) (by omega)) hj),
      Ob.c fun c => ⟨_, _, (e_call2 rfl (c.n 0 rfl) Try.call28 (c.n 4 rfl) (c.n 8 rfl)), cmpR_c (nth xs ((h : Int))) (nth xs ((a : Int))) _⟩,
      Ob.d fun c => r_lss rfl (c.n 9 rfl) rfl, trivial⟩ ?_
     intro a7 w7 τ7 st7 f7
     obtain ⟨e0, e1, e2, e3, e4, e10, e11, e12, e33, -⟩ := f7.ks [(0, _), (1, _), (2, _), (3, _), (4, _), (10, _), (11, _), (12, _), (33, _)] ⟨e0, e1, e2, e3, e4, e10, e11, e12, e33, trivial⟩
     have e50 : get a7 50 = (.bool (decide (cmpR (nth xs ((h : Int))) (nth xs ((a : Int))) < 0))) := f7.v 10 rfl
     replace r0 := f7.io 0 rfl
     clear f7
     show Code.wp _ _ _ a7 w7
     refine wp_cond_split (t := decide (cmpR (nth xs ((h : Int))) (nth xs ((a : Int))) < 0)) e50 (fun hc3 => ?_) (fun hc3 => ?_)
     · try simp only [decide_eq_true_eq] at hc3
       refine region_St (bf := [0, 1, 3]) (sp := [det _ 51 _, det _ 52 _, det _ 10 _]) [io r0] mixed st7 (by kernel_rfl) ⟨r0, trivial⟩
        ⟨Ob.d fun c => r_move rfl (c.p e12),
        Ob.d fun c => r_add rfl (c.n 0 rfl) rfl (by omega),
        Ob.d fun c => r_assign rfl (c.n 1 rfl), trivial⟩ ?_
       intro a8 w8 τ8 st8 f8
       obtain ⟨e0, e1, e2, e3, e4, e11, e12, e33, e50, -⟩ := f8.ks [(0, _), (1, _), (2, _), (3, _), (4, _), (11, _), (12, _), (33, _), (50, _)] ⟨e0, e1, e2, e3, e4, e11, e12, e33, e50, trivial⟩
       have e10 : get a8 10 = (.int .i64 ((h : Int) + 1)) := f8.v 2 rfl
       replace r0 := f8.io 0 rfl
       clear f8
       show _
       refine ⟨⟨h + 1, j, τ8, ?_, ?_, ?_, ?_, ?_, st8, (e10.trans (int_eq (by omega))), (e11.trans (int_eq (by omega))), e0, e1, e2, e3, e4, r0⟩, ?_⟩
       · omega
       · omega
       · omega
       · first | exact q3 | (right; rw [show (((h + 1 : Nat) : Int) - 1) = (h : Int) by omega]; exact (by simp only [ltR, decide_eq_true_eq]; assumption))
       · first | exact q4 | (right; exact (by simp only [ltR, decide_eq_false_iff_not, Int.not_lt]; assumption))
       · simp only [m10, m11, e10, e11, intOf]; omega
     try simp only [decide_eq_false_iff_not, Int.not_lt] at hc3
     refine region_St (bf := [0, 1]) (sp := [det _ 53 _, det _ 11 _]) [io r0] mixed st7 (by kernel_rfl) ⟨r0, trivial⟩
      ⟨Ob.d fun c => r_move rfl (c.p e12),
      Ob.d fun c => r_assign rfl (c.n 0 rfl), trivial⟩ ?_
     intro a9 w9 τ9 st9 f9
     obtain ⟨e0, e1, e2, e3, e4, e10, e12, e33, e50, -⟩ := f9.ks [(0, _), (1, _), (2, _), (3, _), (4, _), (10, _), (12, _), (33, _), (50, _)] ⟨e0, e1, e2, e3, e4, e10, e12, e33, e50, trivial⟩
     have e11 : get a9 11 = (.int .i64 ((h : Int))) := f9.v 1 rfl
     replace r0 := f9.io 0 rfl
     clear f9
     show _
     refine ⟨⟨i, h, τ9, ?_, ?_, ?_, ?_, ?_, st9, (e10.trans (int_eq (by omega))), (e11.trans (int_eq (by omega))), e0, e1, e2, e3, e4, r0⟩, ?_⟩
     · omega
     · omega
     · omega
     · first | exact q3 | (right; rw [show (((h + 1 : Nat) : Int) - 1) = (h : Int) by omega]; exact (by simp only [ltR, decide_eq_true_eq]; assumption))
     · first | exact q4 | (right; exact (by simp only [ltR, decide_eq_false_iff_not, Int.not_lt]; assumption))
     · simp only [m10, m11, e10, e11, intOf]; omega
   try simp only [decide_eq_false_iff_not, Int.not_lt] at hc2
   refine wp_exit ?_
   repeat (with_reducible refine then_exit ?_)
   refine exit_here ?_
   show Code.wp _ _ _ a5 w5
   refine wp_seq ?_
   refine wp_seq ?_
   refine region_St (bf := [0, 1]) (sp := [det _ 54 _, det _ 13 _]) [io r0] mixed st5 (by kernel_rfl) ⟨r0, trivial⟩
    ⟨Ob.d fun c => r_move rfl (c.p e1),
    Ob.d fun c => r_assign rfl (c.n 0 rfl), trivial⟩ ?_
   intro a10 w10 τ10 st10 f10
   obtain ⟨e0, e1, e2, e3, e4, e10, -⟩ := f10.ks [(0, _), (1, _), (2, _), (3, _), (4, _), (10, _)] ⟨e0, e1, e2, e3, e4, e10, trivial⟩
   have e13 : get a10 13 = (.int .i64 ((a : Int))) := f10.v 1 rfl
   replace r0 := f10.io 0 rfl
   clear f10
   show Code.wp _ _ _ a10 w10
   refine wp_block ?_
   refine wp_loop (fun a_ w_ => ∃ (n : Nat) (τ : Nat → Foot), (n ≤ i - 1 - a) ∧
          St (fun k => v.ownBlock = some k ∨ w.heap.size ≤ k) w 220 a_ w_ τ ∧
          get a_ 13 = (.int .i64 ((a : Int) + (n : Int))) ∧
          get a_ 0 = v ∧
          get a_ 1 = (.int .i64 ((a : Int))) ∧
          get a_ 2 = (.int .i64 ((m : Int))) ∧
          get a_ 3 = (.int .i64 ((b : Int))) ∧
          get a_ 4 = (.func (.func 28) #[] #[]) ∧
          get a_ 10 = (.int .i64 ((i : Int))) ∧
          ownR RowE 36 (bup xs a n) (τ 0) v w_) (fun a_ _ => i - 1 - (intOf (get a_ 13)).toNat) ?_ ?_
   · refine ⟨0, τ10, ?_, st10, (e13.trans (int_eq (by omega))), e0, e1, e2, e3, e4, e10, ?_⟩
     · omega
     · exact r0.cast (by rfl)
   intro a11 w11 hI
   obtain ⟨n, τ11, q0, st11, e13, e0, e1, e2, e3, e4, e10, r0⟩ := hI
   have hl := bup_len xs a n
   have m13 := e13
   refine wp_seq ?_
   refine wp_seq ?_
   refine region_St (bf := [0, 0, 2, 7]) (sp := [det _ 55 _, det _ 56 _, det _ 57 _, det _ 58 _]) [io r0] mixed st11 (by kernel_rfl) ⟨r0, trivial⟩
    ⟨Ob.d fun c => r_move rfl (c.p e13),
    Ob.d fun c => r_move rfl (c.p e10),
    Ob.d fun c => r_sub rfl (c.n 1 rfl) rfl (by omega),
    Ob.d fun c => r_lss rfl (c.n 0 rfl) (c.n 2 rfl), trivial⟩ ?_
   intro a12 w12 τ12 st12 f12
   obtain ⟨e0, e1, e2, e3, e4, e10, e13, -⟩ := f12.ks [(0, _), (1, _), (2, _), (3, _), (4, _), (10, _), (13, _)] ⟨e0, e1, e2, e3, e4, e10, e13, trivial⟩
   have e58 : get a12 58 = (.bool (decide ((a : Int) + (n : Int) < (i : Int) - 1))) := f12.v 3 rfl
   replace r0 := f12.io 0 rfl
   clear f12
   show Code.wp _ _ _ a12 w12
   refine wp_cond_split (t := decide ((a : Int) + (n : Int) < (i : Int) - 1)) e58 (fun hc4 => ?_) (fun hc4 => ?_)
   · try simp only [decide_eq_true_eq] at hc4
     refine wp_skip ?_
     show Code.wp _ _ _ a12 w12
     refine wp_seq ?_
     refine wp_block ?_
     refine region_St (bf := [0, 0, 0, 0, 8, 0, 0, 64, 224, 480, 0, 0, 3072, 7168, 16355, 32739, 65535, 131071]) (sp := [det _ 61 _, det _ 62 _, det _ 63 _, det _ 64 _, det _ 65 _, det _ 66 _, det _ 67 _, det _ 68 _, det _ 69 _, det _ 70 _, det _ 71 _, det _ 72 _, det _ 73 _, det _ 74 _, det _ 75 _, own _ _ _ 0 0 _, det _ 76 _, own _ _ _ 0 0 _]) [io r0] mixed st12 (by kernel_rfl) ⟨r0, trivial⟩
      ⟨Ob.d fun c => r_move rfl (c.p e0),
      Ob.d fun c => r_move rfl (c.p e13),
      Ob.d fun c => r_move rfl (c.p e0),
      Ob.d fun c => r_move rfl (c.p e13),
      Ob.d fun c => r_add rfl (c.n 3 rfl) rfl (by omega),
      Ob.d fun c => r_move rfl (c.p e0),
      Ob.d fun c => r_move rfl (c.p e13),
      Ob.d fun c => r_add rfl (c.n 6 rfl) rfl (by omega),
      Ob.d fun c => r_indexAddr rfl Try.underlying22 Try.sizeOf36 (c.n 5 rfl) r0.isSl (c.n 7 rfl) (by omega) (by omega),
      Ob.d fun c => r_loadN (vs := [(.string ((nth (bup xs a n) ((a : Int) + (n : Int) + 1)).1)), (.string ((nth (bup xs a n) ((a : Int) + (n : Int) + 1)).2))]) rfl Try.isAgg36 Try.sizeOf36 (c.n 8 rfl) rfl (fun _ _ hj => ((c.io 0 rfl).1.sl).elem (nth_some (i := (a : Int) + (n : Int) + 1) (by omega) (by omega)) hj),
      Ob.d fun c => r_move rfl (c.p e0),
      Ob.d fun c => r_move rfl (c.p e13),
      Ob.d fun c => r_indexAddr rfl Try.underlying22 Try.sizeOf36 (c.n 10 rfl) r0.isSl (c.n 11 rfl) (by omega) (by omega),
      Ob.d fun c => r_loadN (vs := [(.string ((nth (bup xs a n) ((a : Int) + (n : Int))).1)), (.string ((nth (bup xs a n) ((a : Int) + (n : Int))).2))]) rfl Try.isAgg36 Try.sizeOf36 (c.n 12 rfl) rfl (fun _ _ hj => ((c.io 0 rfl).1.sl).elem (nth_some (i := (a : Int) + (n : Int)) (by omega) (by omega)) hj),
      Ob.d fun c => r_indexAddr rfl Try.underlying22 Try.sizeOf36 (c.n 0 rfl) r0.isSl (c.n 1 rfl) (by omega) (by omega),
      Ob.storeElem (E := RowE) (i := ((a : Int) + (n : Int)).toNat) (off := 0) (u := (.agg #[(.string ((nth (bup xs a n) ((a : Int) + (n : Int) + 1)).1)), (.string ((nth (bup xs a n) ((a : Int) + (n : Int) + 1)).2))])) (x := nth (bup xs a n) ((a : Int) + (n : Int))) (x' := (nth (bup xs a n) ((a : Int) + (n : Int) + 1))) rfl rfl rfl rfl Try.sizeOf36 (nth_some (by omega) (by (try simp only [List.length_set]); omega)) (Nat.le_of_ble_eq_true rfl) (by simp [Value.cells, Value.oneCell']) rfl (fun _ a_ _ _ c => ⟨c.ip 0 rfl e0, c.ad (c.n 14 rfl) e0 rfl, (c.n 9 rfl)⟩),
      Ob.d fun c => r_indexAddr rfl Try.underlying22 Try.sizeOf36 (c.n 2 rfl) r0.isSl (c.n 4 rfl) (by omega) (by omega),
      Ob.storeElem (E := RowE) (i := ((a : Int) + (n : Int) + 1).toNat) (off := 0) (u := (.agg #[(.string ((nth (bup xs a n) ((a : Int) + (n : Int))).1)), (.string ((nth (bup xs a n) ((a : Int) + (n : Int))).2))])) (x := nth ((bup xs a n).set ((a : Int) + (n : Int)).toNat (nth (bup xs a n) ((a : Int) + (n : Int) + 1))) ((a : Int) + (n : Int) + 1)) (x' := (nth (bup xs a n) ((a : Int) + (n : Int)))) rfl rfl rfl rfl Try.sizeOf36 (nth_some (by omega) (by (try simp only [List.length_set]); omega)) (Nat.le_of_ble_eq_true rfl) (by simp [Value.cells, Value.oneCell']) rfl (fun _ a_ _ _ c => ⟨c.ro 15 rfl, c.ad (c.n 16 rfl) e0 rfl, (c.n 13 rfl)⟩), trivial⟩ ?_
     intro a13 w13 τ13 st13 f13
     obtain ⟨e0, e1, e2, e3, e4, e10, e13, e58, -⟩ := f13.ks [(0, _), (1, _), (2, _), (3, _), (4, _), (10, _), (13, _), (58, _)] ⟨e0, e1, e2, e3, e4, e10, e13, e58, trivial⟩
     replace r0 : ownR RowE 36 (((bup xs a n).set ((a : Int) + (n : Int)).toNat (nth (bup xs a n) ((a : Int) + (n : Int) + 1))).set ((a : Int) + (n : Int) + 1).toNat (nth (bup xs a n) ((a : Int) + (n : Int)))) (τ13 0) v w13 := f13.ro 17 e0 rfl
     clear f13
     show _
     show Code.wp _ _ _ a13 w13
     refine region_St (bf := [0, 1, 3]) (sp := [det _ 59 _, det _ 60 _, det _ 13 _]) [io r0] mixed st13 (by kernel_rfl) ⟨r0, trivial⟩
      ⟨Ob.d fun c => r_move rfl (c.p e13),
      Ob.d fun c => r_add rfl (c.n 0 rfl) rfl (by omega),
      Ob.d fun c => r_assign rfl (c.n 1 rfl), trivial⟩ ?_
     intro a14 w14 τ14 st14 f14
     obtain ⟨e0, e1, e2, e3, e4, e10, e58, -⟩ := f14.ks [(0, _), (1, _), (2, _), (3, _), (4, _), (10, _), (58, _)] ⟨e0, e1, e2, e3, e4, e10, e58, trivial⟩
     have e13 : get a14 13 = (.int .i64 ((a : Int) + (n : Int) + 1)) := f14.v 2 rfl
     replace r0 := f14.io 0 rfl
     clear f14
     refine ⟨⟨n + 1, τ14, ?_, st14, (e13.trans (int_eq (by omega))), e0, e1, e2, e3, e4, e10, ?_⟩, ?_⟩
     · omega
     · exact r0.cast (by rfl)
     · simp only [m13, e13, intOf]; omega
   try simp only [decide_eq_false_iff_not, Int.not_lt] at hc4
   refine wp_exit ?_
   repeat (with_reducible refine then_exit ?_)
   refine exit_here ?_
   show Code.wp _ _ _ a12 w12
   refine wp_ret ?_
   repeat (first | with_reducible refine then_ret ?_ | with_reducible refine block_ret ?_)
   refine end0r (fn := Try.f43) rfl st12.defers ?_
   obtain rfl : i = j := by omega
   obtain rfl : m = a + 1 := by omega
   obtain rfl : n = i - 1 - a := by omega
   exact ⟨rfl, (sym_left ltR_swo hS2 q_1 q_3 h3 q_4 q_5) ▸ r0.1, st12.extIn⟩
 try simp only [decide_eq_false_iff_not] at hc1
 refine wp_skip ?_
 show Code.wp _ _ _ a1 w1
 refine wp_seq ?_
 refine wp_seq ?_
 refine region_St (bf := [0, 0, 3, 7]) (sp := [det _ 77 _, det _ 78 _, det _ 79 _, det _ 80 _]) [io r0] mixed st1 (by kernel_rfl) ⟨r0, trivial⟩
  ⟨Ob.d fun c => r_move rfl (c.p e3),
  Ob.d fun c => r_move rfl (c.p e2),
  Ob.d fun c => r_sub rfl (c.n 0 rfl) (c.n 1 rfl) (by omega),
  Ob.d fun c => r_eql rfl (c.n 2 rfl) rfl, trivial⟩ ?_
 intro a15 w15 τ15 st15 f15
 obtain ⟨e0, e1, e2, e3, e4, -⟩ := f15.ks [(0, _), (1, _), (2, _), (3, _), (4, _)] ⟨e0, e1, e2, e3, e4, trivial⟩
 have e80 : get a15 80 = (.bool (decide ((b : Int) - (m : Int) = 1))) := f15.v 3 rfl
 replace r0 := f15.io 0 rfl
 clear f15
 show Code.wp _ _ _ a15 w15
 refine wp_cond_split (t := decide ((b : Int) - (m : Int) = 1)) e80 (fun hc5 => ?_) (fun hc5 => ?_)
 · try simp only [decide_eq_true_eq] at hc5
   refine wp_seq ?_
   refine region_St (bf := [0, 1]) (sp := [det _ 81 _, det _ 14 _]) [io r0] mixed st15 (by kernel_rfl) ⟨r0, trivial⟩
    ⟨Ob.d fun c => r_move rfl (c.p e1),
    Ob.d fun c => r_assign rfl (c.n 0 rfl), trivial⟩ ?_
   intro a16 w16 τ16 st16 f16
   obtain ⟨e0, e1, e2, e3, e4, -⟩ := f16.ks [(0, _), (1, _), (2, _), (3, _), (4, _)] ⟨e0, e1, e2, e3, e4, trivial⟩
   have e14 : get a16 14 = (.int .i64 ((a : Int))) := f16.v 1 rfl
   replace r0 := f16.io 0 rfl
   clear f16
   show Code.wp _ _ _ a16 w16
   refine wp_seq ?_
   refine region_St (bf := [0, 1]) (sp := [det _ 82 _, det _ 15 _]) [io r0] mixed st16 (by kernel_rfl) ⟨r0, trivial⟩
    ⟨Ob.d fun c => r_move rfl (c.p e2),
    Ob.d fun c => r_assign rfl (c.n 0 rfl), trivial⟩ ?_
   intro a17 w17 τ17 st17 f17
   obtain ⟨e0, e1, e2, e3, e4, e14, -⟩ := f17.ks [(0, _), (1, _), (2, _), (3, _), (4, _), (14, _)] ⟨e0, e1, e2, e3, e4, e14, trivial⟩
   have e15 : get a17 15 = (.int .i64 ((m : Int))) := f17.v 1 rfl
   replace r0 := f17.io 0 rfl
   clear f17
   show Code.wp _ _ _ a17 w17
   refine wp_seq ?_
   refine wp_block ?_
   refine wp_loop (fun a_ w_ => ∃ (i j : Nat) (τ : Nat → Foot), (a ≤ i) ∧
          (i ≤ j) ∧
          (j ≤ m) ∧
          (i = a ∨ ltR (nth xs (m : Int)) (nth xs ((i : Int) - 1)) = false) ∧
          (j = m ∨ ltR (nth xs (m : Int)) (nth xs (j : Int)) = true) ∧
          St (fun k => v.ownBlock = some k ∨ w.heap.size ≤ k) w 220 a_ w_ τ ∧
          get a_ 14 = (.int .i64 ((i : Int))) ∧
          get a_ 15 = (.int .i64 ((j : Int))) ∧
          get a_ 0 = v ∧
          get a_ 1 = (.int .i64 ((a : Int))) ∧
          get a_ 2 = (.int .i64 ((m : Int))) ∧
          get a_ 3 = (.int .i64 ((b : Int))) ∧
          get a_ 4 = (.func (.func 28) #[] #[]) ∧
          ownR RowE 36 (xs) (τ 0) v w_) (fun a_ _ => (intOf (get a_ 15)).toNat - (intOf (get a_ 14)).toNat) ?_ ?_
   · refine ⟨a, m, τ17, ?_, ?_, ?_, ?_, ?_, st17, (e14.trans (int_eq (by omega))), (e15.trans (int_eq (by omega))), e0, e1, e2, e3, e4, r0⟩
     · omega
     · omega
     · omega
     · left; rfl
     · left; rfl
   intro a18 w18 hI
   obtain ⟨i, j, τ18, q0, q1, q2, q3, q4, st18, e14, e15, e0, e1, e2, e3, e4, r0⟩ := hI
   have q_1 := q0; have q_3 := q2; have q_4 := q3; have q_5 := q4
   have m14 := e14
   have m15 := e15
   refine wp_seq ?_
   refine wp_seq ?_
   refine region_St (bf := [0, 0, 3]) (sp := [det _ 83 _, det _ 84 _, det _ 85 _]) [io r0] mixed st18 (by kernel_rfl) ⟨r0, trivial⟩
    ⟨Ob.d fun c => r_move rfl (c.p e14),
    Ob.d fun c => r_move rfl (c.p e15),
    Ob.d fun c => r_lss rfl (c.n 0 rfl) (c.n 1 rfl), trivial⟩ ?_
   intro a19 w19 τ19 st19 f19
   obtain ⟨e0, e1, e2, e3, e4, e14, e15, -⟩ := f19.ks [(0, _), (1, _), (2, _), (3, _), (4, _), (14, _), (15, _)] ⟨e0, e1, e2, e3, e4, e14, e15, trivial⟩
   have e85 : get a19 85 = (.bool (decide ((i : Int) < (j : Int)))) := f19.v 2 rfl
   replace r0 := f19.io 0 rfl
   clear f19
   show Code.wp _ _ _ a19 w19
   refine wp_cond_split (t := decide ((i : Int) < (j : Int))) e85 (fun hc6 => ?_) (fun hc6 => ?_)
   · try simp only [decide_eq_true_eq] at hc6
     refine wp_skip ?_
     show Code.wp _ _ _ a19 w19
     refine wp_block ?_
     refine wp_seq ?_
     refine region_St (bf := [0, 0, 3, 7, 15, 31, 63]) (sp := [det _ 86 _, det _ 87 _, det _ 88 _, det _ 89 _, det _ 90 _, det _ 91 _, det _ 16 _]) [io r0] mixed st19 (by kernel_rfl) ⟨r0, trivial⟩
      ⟨Ob.d fun c => r_move rfl (c.p e14),
      Ob.d fun c => r_move rfl (c.p e15),
      Ob.d fun c => r_add rfl (c.n 0 rfl) (c.n 1 rfl) (by omega),
      Ob.d fun c => r_convIn rfl Try.underlying3 Try.underlying49 (c.n 2 rfl) (by omega) (by omega) (by decide),
      Ob.d fun c => r_shr1 rfl (c.n 3 rfl) rfl,
      Ob.d fun c => r_convIn rfl Try.underlying49 Try.underlying3 (c.n 4 rfl) (by omega) (by omega) (by decide),
      Ob.d fun c => r_assign rfl (c.n 5 rfl), trivial⟩ ?_
     intro a20 w20 τ20 st20 f20
     obtain ⟨e0, e1, e2, e3, e4, e14, e15, e85, -⟩ := f20.ks [(0, _), (1, _), (2, _), (3, _), (4, _), (14, _), (15, _), (85, _)] ⟨e0, e1, e2, e3, e4, e14, e15, e85, trivial⟩
     have e16 : get a20 16 = (.int .i64 (((i : Int) + (j : Int)) / 2)) := f20.v 6 rfl
     replace r0 := f20.io 0 rfl
     clear f20
     obtain ⟨h, hh⟩ : ∃ x_ : Nat, ((i : Int) + (j : Int)) / 2 = (x_ : Int) := ⟨(i + j) / 2, by omega⟩
     replace e16 := e16.trans (int_eq hh)
     show Code.wp _ _ _ a20 w20
     refine wp_seq ?_
     refine region_St (bf := [0, 0, 0, 6, 14, 0, 0, 96, 224, 511, 1023, 2047]) (sp := [det _ 92 _, det _ 93 _, det _ 94 _, det _ 95 _, det _ 96 _, det _ 97 _, det _ 98 _, det _ 99 _, det _ 100 _, det _ 101 _, det _ 102 _, det _ 103 _]) [io r0] mixed st20 (by kernel_rfl) ⟨r0, trivial⟩
      ⟨Ob.d fun c => r_move rfl (c.p e4),
      Ob.d fun c => r_move rfl (c.p e0),
      Ob.d fun c => r_move rfl (c.p e2),
      Ob.d fun c => r_indexAddr rfl Try.underlying22 Try.sizeOf36 (c.n 1 rfl) r0.isSl (c.n 2 rfl) (by omega) (by omega),
      Ob.d fun c => r_loadN (vs := [(.string ((nth xs ((m : Int))).1)), (.string ((nth xs ((m : Int))).2))]) rfl Try.isAgg36 Try.sizeOf36 (c.n 3 rfl) rfl (fun _ _ hj => ((c.io 0 rfl).1.sl).elem (nth_some (i := (m : Int)) (by omega) (by omega)) hj),
      Ob.d fun c => r_move rfl (c.p e0),
      Ob.d fun c => r_move rfl (c.p e16),
      Ob.d fun c => r_indexAddr rfl Try.underlying22 Try.sizeOf36 (c.n 5 rfl) r0.isSl (c.n 6 rfl) (by omega) (by omega),
      Ob.d fun c => r_loadN (vs := [(.string ((nth xs ((h : Int))).1)), (.string ((nth xs ((h : Int))).2))]) rfl Try.isAgg36 Try.sizeOf36 (c.n 7 rfl) rfl (fun _ _ hj => ((c.io 0 rfl).1.sl).elem (nth_some (i := (h : Int)) (by omega) (by omega)) hj),
      Ob.c fun c => ⟨_, _, (e_call2 rfl (c.n 0 rfl) Try.call28 (c.n 4 rfl) (c.n 8 rfl)), cmpR_c (nth xs ((m : Int))) (nth xs ((h : Int))) _⟩,
      Ob.d fun c => r_lss rfl (c.n 9 rfl) rfl,
      Ob.d fun c => r_not rfl (c.n 10 rfl), trivial⟩ ?_
     intro a21 w21 τ21 st21 f21
     obtain ⟨e0, e1, e2, e3, e4, e14, e15, e16, e85, -⟩ := f21.ks [(0, _), (1, _), (2, _), (3, _), (4, _), (14, _), (15, _), (16, _), (85, _)] ⟨e0, e1, e2, e3, e4, e14, e15, e16, e85, trivial⟩
     have e103 : get a21 103 = (.bool (!(decide (cmpR (nth xs ((m : Int))) (nth xs ((h : Int))) < 0)))) := f21.v 11 rfl
     replace r0 := f21.io 0 rfl
     clear f21
     show Code.wp _ _ _ a21 w21
     refine wp_cond_split (t := !(decide (cmpR (nth xs ((m : Int))) (nth xs ((h : Int))) < 0))) e103 (fun hc7 => ?_) (fun hc7 => ?_)
     · try simp only [Bool.not_eq_true', Bool.not_eq_false', decide_eq_true_eq, decide_eq_false_iff_not, Int.not_lt] at hc7
       refine region_St (bf := [0, 1, 3]) (sp := [det _ 104 _, det _ 105 _, det _ 14 _]) [io r0] mixed st21 (by kernel_rfl) ⟨r0, trivial⟩
        ⟨Ob.d fun c => r_move rfl (c.p e16),
        Ob.d fun c => r_add rfl (c.n 0 rfl) rfl (by omega),
        Ob.d fun c => r_assign rfl (c.n 1 rfl), trivial⟩ ?_
       intro a22 w22 τ22 st22 f22
       obtain ⟨e0, e1, e2, e3, e4, e15, e16, e85, e103, -⟩ := f22.ks [(0, _), (1, _), (2, _), (3, _), (4, _), (15, _), (16, _), (85, _), (103, _)] ⟨e0, e1, e2, e3, e4, e15, e16, e85, e103, trivial⟩
       have e14 : get a22 14 = (.int .i64 ((h : Int) + 1)) := f22.v 2 rfl
       replace r0 := f22.io 0 rfl
       clear f22
       show _
       refine ⟨⟨h + 1, j, τ22, ?_, ?_, ?_, ?_, ?_, st22, (e14.trans (int_eq (by omega))), (e15.trans (int_eq (by omega))), e0, e1, e2, e3, e4, r0⟩, ?_⟩
       · omega
       · omega
       · omega
       · first | exact q3 | (right; rw [show (((h + 1 : Nat) : Int) - 1) = (h : Int) by omega]; exact (by simp only [ltR, decide_eq_false_iff_not, Int.not_lt]; assumption))
       · first | exact q4 | (right; exact (by simp only [ltR, decide_eq_true_eq]; assumption))
       · simp only [m14, m15, e14, e15, intOf]; omega
     try simp only [Bool.not_eq_true', Bool.not_eq_false', decide_eq_true_eq, decide_eq_false_iff_not, Int.not_lt] at hc7
     refine region_St (bf := [0, 1]) (sp := [det _ 106 _, det _ 15 _]) [io r0] mixed st21 (by kernel_rfl) ⟨r0, trivial⟩
      ⟨Ob.d fun c => r_move rfl (c.p e16),
      Ob.d fun c => r_assign rfl (c.n 0 rfl), trivial⟩ ?_
     intro a23 w23 τ23 st23 f23
     obtain ⟨e0, e1, e2, e3, e4, e14, e16, e85, e103, -⟩ := f23.ks [(0, _), (1, _), (2, _), (3, _), (4, _), (14, _), (16, _), (85, _), (103, _)] ⟨e0, e1, e2, e3, e4, e14, e16, e85, e103, trivial⟩
     have e15 : get a23 15 = (.int .i64 ((h : Int))) := f23.v 1 rfl
     replace r0 := f23.io 0 rfl
     clear f23
     show _
     refine ⟨⟨i, h, τ23, ?_, ?_, ?_, ?_, ?_, st23, (e14.trans (int_eq (by omega))), (e15.trans (int_eq (by omega))), e0, e1, e2, e3, e4, r0⟩, ?_⟩
     · omega
     · omega
     · omega
     · first | exact q3 | (right; rw [show (((h + 1 : Nat) : Int) - 1) = (h : Int) by omega]; exact (by simp only [ltR, decide_eq_false_iff_not, Int.not_lt]; assumption))
     · first | exact q4 | (right; exact (by simp only [ltR, decide_eq_true_eq]; assumption))
     · simp only [m14, m15, e14, e15, intOf]; omega
   try simp only [decide_eq_false_iff_not, Int.not_lt] at hc6
   refine wp_exit ?_
   repeat (with_reducible refine then_exit ?_)
   refine exit_here ?_
   show Code.wp _ _ _ a19 w19
   refine wp_seq ?_
   refine wp_seq ?_
   refine region_St (bf := [0, 1]) (sp := [det _ 107 _, det _ 17 _]) [io r0] mixed st19 (by kernel_rfl) ⟨r0, trivial⟩
    ⟨Ob.d fun c => r_move rfl (c.p e2),
    Ob.d fun c => r_assign rfl (c.n 0 rfl), trivial⟩ ?_
   intro a24 w24 τ24 st24 f24
   obtain ⟨e0, e1, e2, e3, e4, e14, -⟩ := f24.ks [(0, _), (1, _), (2, _), (3, _), (4, _), (14, _)] ⟨e0, e1, e2, e3, e4, e14, trivial⟩
   have e17 : get a24 17 = (.int .i64 ((m : Int))) := f24.v 1 rfl
   replace r0 := f24.io 0 rfl
   clear f24
   show Code.wp _ _ _ a24 w24
   refine wp_block ?_
   refine wp_loop (fun a_ w_ => ∃ (n : Nat) (τ : Nat → Foot), (n ≤ m - i) ∧
          St (fun k => v.ownBlock = some k ∨ w.heap.size ≤ k) w 220 a_ w_ τ ∧
          get a_ 17 = (.int .i64 ((m : Int) - (n : Int))) ∧
          get a_ 0 = v ∧
          get a_ 1 = (.int .i64 ((a : Int))) ∧
          get a_ 2 = (.int .i64 ((m : Int))) ∧
          get a_ 3 = (.int .i64 ((b : Int))) ∧
          get a_ 4 = (.func (.func 28) #[] #[]) ∧
          get a_ 14 = (.int .i64 ((i : Int))) ∧
          ownR RowE 36 (bdn xs m n) (τ 0) v w_) (fun a_ _ => (intOf (get a_ 17)).toNat) ?_ ?_
   · refine ⟨0, τ24, ?_, st24, (e17.trans (int_eq (by omega))), e0, e1, e2, e3, e4, e14, ?_⟩
     · omega
     · exact r0.cast (by rfl)
   intro a25 w25 hI
   obtain ⟨n, τ25, q0, st25, e17, e0, e1, e2, e3, e4, e14, r0⟩ := hI
   have hl := bdn_len xs m n
   have m17 := e17
   refine wp_seq ?_
   refine wp_seq ?_
   refine region_St (bf := [0, 0, 3]) (sp := [det _ 108 _, det _ 109 _, det _ 110 _]) [io r0] mixed st25 (by kernel_rfl) ⟨r0, trivial⟩
    ⟨Ob.d fun c => r_move rfl (c.p e17),
    Ob.d fun c => r_move rfl (c.p e14),
    Ob.d fun c => r_gtr rfl (c.n 0 rfl) (c.n 1 rfl), trivial⟩ ?_
   intro a26 w26 τ26 st26 f26
   obtain ⟨e0, e1, e2, e3, e4, e14, e17, -⟩ := f26.ks [(0, _), (1, _), (2, _), (3, _), (4, _), (14, _), (17, _)] ⟨e0, e1, e2, e3, e4, e14, e17, trivial⟩
   have e110 : get a26 110 = (.bool (decide ((i : Int) < (m : Int) - (n : Int)))) := f26.v 2 rfl
   replace r0 := f26.io 0 rfl
   clear f26
   show Code.wp _ _ _ a26 w26
   refine wp_cond_split (t := decide ((i : Int) < (m : Int) - (n : Int))) e110 (fun hc8 => ?_) (fun hc8 => ?_)
   · try simp only [decide_eq_true_eq] at hc8
     refine wp_skip ?_
     show Code.wp _ _ _ a26 w26
     refine wp_seq ?_
     refine wp_block ?_
     refine region_St (bf := [0, 0, 0, 0, 8, 0, 0, 64, 224, 480, 0, 0, 3072, 7168, 16355, 32739, 65535, 131071]) (sp := [det _ 113 _, det _ 114 _, det _ 115 _, det _ 116 _, det _ 117 _, det _ 118 _, det _ 119 _, det _ 120 _, det _ 121 _, det _ 122 _, det _ 123 _, det _ 124 _, det _ 125 _, det _ 126 _, det _ 127 _, own _ _ _ 0 0 _, det _ 128 _, own _ _ _ 0 0 _]) [io r0] mixed st26 (by kernel_rfl) ⟨r0, trivial⟩
      ⟨Ob.d fun c => r_move rfl (c.p e0),
      Ob.d fun c => r_move rfl (c.p e17),
      Ob.d fun c => r_move rfl (c.p e0),
      Ob.d fun c => r_move rfl (c.p e17),
      Ob.d fun c => r_sub rfl (c.n 3 rfl) rfl (by omega),
      Ob.d fun c => r_move rfl (c.p e0),
      Ob.d fun c => r_move rfl (c.p e17),
      Ob.d fun c => r_sub rfl (c.n 6 rfl) rfl (by omega),
      Ob.d fun c => r_indexAddr rfl Try.underlying22 Try.sizeOf36 (c.n 5 rfl) r0.isSl (c.n 7 rfl) (by omega) (by omega),
      Ob.d fun c => r_loadN (vs := [(.string ((nth (bdn xs m n) ((m : Int) - (n : Int) - 1)).1)), (.string ((nth (bdn xs m n) ((m : Int) - (n : Int) - 1)).2))]) rfl Try.isAgg36 Try.sizeOf36 (c.n 8 rfl) rfl (fun _ _ hj => ((c.io 0 rfl).1.sl).elem (nth_some (i := (m : Int) - (n : Int) - 1) (by omega) (by omega)) hj),
      Ob.d fun c => r_move rfl (c.p e0),
      Ob.d fun c => r_move rfl (c.p e17),
      Ob.d fun c => r_indexAddr rfl Try.underlying22 Try.sizeOf36 (c.n 10 rfl) r0.isSl (c.n 11 rfl) (by omega) (by omega),
      Ob.d fun c => r_loadN (vs := [(.string ((nth (bdn xs m n) ((m : Int) - (n : Int))).1)), (.string ((nth (bdn xs m n) ((m : Int) - (n : Int))).2))]) rfl Try.isAgg36 Try.sizeOf36 (c.n 12 rfl) rfl (fun _ _ hj => ((c.io 0 rfl).1.sl).elem (nth_some (i := (m : Int) - (n : Int)) (by omega) (by omega)) hj),
      Ob.d fun c => r_indexAddr rfl Try.underlying22 Try.sizeOf36 (c.n 0 rfl) r0.isSl (c.n 1 rfl) (by omega) (by omega),
      Ob.storeElem (E := RowE) (i := ((m : Int) - (n : Int)).toNat) (off := 0) (u := (.agg #[(.string ((nth (bdn xs m n) ((m : Int) - (n : Int) - 1)).1)), (.string ((nth (bdn xs m n) ((m : Int) - (n : Int) - 1)).2))])) (x := nth (bdn xs m n) ((m : Int) - (n : Int))) (x' := (nth (bdn xs m n) ((m : Int) - (n : Int) - 1))) rfl rfl rfl rfl Try.sizeOf36 (nth_some (by omega) (by (try simp only [List.length_set]); omega)) (Nat.le_of_ble_eq_true rfl) (by simp [Value.cells, Value.oneCell']) rfl (fun _ a_ _ _ c => ⟨c.ip 0 rfl e0, c.ad (c.n 14 rfl) e0 rfl, (c.n 9 rfl)⟩),
      Ob.d fun c => r_indexAddr rfl Try.underlying22 Try.sizeOf36 (c.n 2 rfl) r0.isSl (c.n 4 rfl) (by omega) (by omega),
      Ob.storeElem (E := RowE) (i := ((m : Int) - (n : Int) - 1).toNat) (off := 0) (u := (.agg #[(.string ((nth (bdn xs m n) ((m : Int) - (n : Int))).1)), (.string ((nth (bdn xs m n) ((m : Int) - (n : Int))).2))])) (x := nth ((bdn xs m n).set ((m : Int) - (n : Int)).toNat (nth (bdn xs m n) ((m : Int) - (n : Int) - 1))) ((m : Int) - (n : Int) - 1)) (x' := (nth (bdn xs m n) ((m : Int) - (n : Int)))) rfl rfl rfl rfl Try.sizeOf36 (nth_some (by omega) (by (try simp only [List.length_set]); omega)) (Nat.le_of_ble_eq_true rfl) (by simp [Value.cells, Value.oneCell']) rfl (fun _ a_ _ _ c => ⟨c.ro 15 rfl, c.ad (c.n 16 rfl) e0 rfl, (c.n 13 rfl)⟩), trivial⟩ ?_
     intro a27 w27 τ27 st27 f27
     obtain ⟨e0, e1, e2, e3, e4, e14, e17, e110, -⟩ := f27.ks [(0, _), (1, _), (2, _), (3, _), (4, _), (14, _), (17, _), (110, _)] ⟨e0, e1, e2, e3, e4, e14, e17, e110, trivial⟩
     replace r0 : ownR RowE 36 (((bdn xs m n).set ((m : Int) - (n : Int)).toNat (nth (bdn xs m n) ((m : Int) - (n : Int) - 1))).set ((m : Int) - (n : Int) - 1).toNat (nth (bdn xs m n) ((m : Int) - (n : Int)))) (τ27 0) v w27 := f27.ro 17 e0 rfl
     clear f27
     show _
     show Code.wp _ _ _ a27 w27
     refine region_St (bf := [0, 1, 3]) (sp := [det _ 111 _, det _ 112 _, det _ 17 _]) [io r0] mixed st27 (by kernel_rfl) ⟨r0, trivial⟩
      ⟨Ob.d fun c => r_move rfl (c.p e17),
      Ob.d fun c => r_sub rfl (c.n 0 rfl) rfl (by omega),
      Ob.d fun c => r_assign rfl (c.n 1 rfl), trivial⟩ ?_
     intro a28 w28 τ28 st28 f28
     obtain ⟨e0, e1, e2, e3, e4, e14, e110, -⟩ := f28.ks [(0, _), (1, _), (2, _), (3, _), (4, _), (14, _), (110, _)] ⟨e0, e1, e2, e3, e4, e14, e110, trivial⟩
     have e17 : get a28 17 = (.int .i64 ((m : Int) - (n : Int) - 1)) := f28.v 2 rfl
     replace r0 := f28.io 0 rfl
     clear f28
     refine ⟨⟨n + 1, τ28, ?_, st28, (e17.trans (int_eq (by omega))), e0, e1, e2, e3, e4, e14, ?_⟩, ?_⟩
     · omega
     · exact r0.cast (by rfl)
     · simp only [m17, e17, intOf]; omega
   try simp only [decide_eq_false_iff_not, Int.not_lt] at hc8
   refine wp_exit ?_
   repeat (with_reducible refine then_exit ?_)
   refine exit_here ?_
   show Code.wp _ _ _ a26 w26
   refine wp_ret ?_
   repeat (first | with_reducible refine then_ret ?_ | with_reducible refine block_ret ?_)
   refine end0r (fn := Try.f43) rfl st26.defers ?_
   obtain rfl : i = j := by omega
   obtain rfl : b = m + 1 := by omega
   obtain rfl : n = m - i := by omega
   exact ⟨rfl, (sym_right ltR_swo hS1 q_1 q_3 (by omega) q_4 q_5) ▸ r0.1, st26.extIn⟩
 try simp only [decide_eq_false_iff_not] at hc5
 refine wp_skip ?_
 show Code.wp _ _ _ a15 w15
 refine wp_seq ?_
 refine region_St (bf := [0, 0, 3, 7, 15, 31, 63]) (sp := [det _ 129 _, det _ 130 _, det _ 131 _, det _ 132 _, det _ 133 _, det _ 134 _, det _ 18 _]) [io r0] mixed st15 (by kernel_rfl) ⟨r0, trivial⟩
  ⟨Ob.d fun c => r_move rfl (c.p e1),
  Ob.d fun c => r_move rfl (c.p e3),
  Ob.d fun c => r_add rfl (c.n 0 rfl) (c.n 1 rfl) (by omega),
  Ob.d fun c => r_convIn rfl Try.underlying3 Try.underlying49 (c.n 2 rfl) (by omega) (by omega) (by decide),
  Ob.d fun c => r_shr1 rfl (c.n 3 rfl) rfl,
  Ob.d fun c => r_convIn rfl Try.underlying49 Try.underlying3 (c.n 4 rfl) (by omega) (by omega) (by decide),
  Ob.d fun c => r_assign rfl (c.n 5 rfl), trivial⟩ ?_
 intro a29 w29 τ29 st29 f29
 obtain ⟨e0, e1, e2, e3, e4, -⟩ := f29.ks [(0, _), (1, _), (2, _), (3, _), (4, _)] ⟨e0, e1, e2, e3, e4, trivial⟩
 have e18 : get a29 18 = (.int .i64 (((a : Int) + (b : Int)) / 2)) := f29.v 6 rfl
 replace r0 := f29.io 0 rfl
 clear f29
 obtain ⟨mid, hmid⟩ : ∃ x_ : Nat, ((a : Int) + (b : Int)) / 2 = (x_ : Int) := ⟨(a + b) / 2, by omega⟩
 replace e18 := e18.trans (int_eq hmid)
 show Code.wp _ _ _ a29 w29
 refine wp_seq ?_
 refine region_St (bf := [0, 0, 3, 7]) (sp := [det _ 135 _, det _ 136 _, det _ 137 _, det _ 19 _]) [io r0] mixed st29 (by kernel_rfl) ⟨r0, trivial⟩
  ⟨Ob.d fun c => r_move rfl (c.p e18),
  Ob.d fun c => r_move rfl (c.p e2),
  Ob.d fun c => r_add rfl (c.n 0 rfl) (c.n 1 rfl) (by omega),
  Ob.d fun c => r_assign rfl (c.n 2 rfl), trivial⟩ ?_
 intro a30 w30 τ30 st30 f30
 obtain ⟨e0, e1, e2, e3, e4, e18, -⟩ := f30.ks [(0, _), (1, _), (2, _), (3, _), (4, _), (18, _)] ⟨e0, e1, e2, e3, e4, e18, trivial⟩
 have e19 : get a30 19 = (.int .i64 ((mid : Int) + (m : Int))) := f30.v 3 rfl
 replace r0 := f30.io 0 rfl
 clear f30
 show Code.wp _ _ _ a30 w30
 refine wp_seq ?_
 refine region_St (bf := [0, 1]) (sp := [det _ 20 _, det _ 21 _]) [io r0] mixed st30 (by kernel_rfl) ⟨r0, trivial⟩
  ⟨Ob.d fun c => r_assign rfl rfl,
  Ob.d fun c => r_assign rfl rfl, trivial⟩ ?_
 intro a31 w31 τ31 st31 f31
 obtain ⟨e0, e1, e2, e3, e4, e18, e19, -⟩ := f31.ks [(0, _), (1, _), (2, _), (3, _), (4, _), (18, _), (19, _)] ⟨e0, e1, e2, e3, e4, e18, e19, trivial⟩
 have e20 : get a31 20 = (.int .i64 (0)) := f31.v 0 rfl
 have e21 : get a31 21 = (.int .i64 (0)) := f31.v 1 rfl
 replace r0 := f31.io 0 rfl
 clear f31
 show Code.wp _ _ _ a31 w31
 refine wp_seq ?_
 refine wp_seq ?_
 refine region_St (bf := [0, 0, 3]) (sp := [det _ 138 _, det _ 139 _, det _ 140 _]) [io r0] mixed st31 (by kernel_rfl) ⟨r0, trivial⟩
  ⟨Ob.d fun c => r_move rfl (c.p e2),
  Ob.d fun c => r_move rfl (c.p e18),
  Ob.d fun c => r_gtr rfl (c.n 0 rfl) (c.n 1 rfl), trivial⟩ ?_
 intro a32 w32 τ32 st32 f32
 obtain ⟨e0, e1, e2, e3, e4, e18, e19, e20, e21, -⟩ := f32.ks [(0, _), (1, _), (2, _), (3, _), (4, _), (18, _), (19, _), (20, _), (21, _)] ⟨e0, e1, e2, e3, e4, e18, e19, e20, e21, trivial⟩
 have e140 : get a32 140 = (.bool (decide ((mid : Int) < (m : Int)))) := f32.v 2 rfl
 replace r0 := f32.io 0 rfl
 clear f32
 show Code.wp _ _ _ a32 w32
 refine wp_cond_split (t := decide ((mid : Int) < (m : Int))) e140 (fun hc9 => ?_) (fun hc9 => ?_)
 · try simp only [decide_eq_true_eq] at hc9
   refine wp_seq ?_
   refine region_St (bf := [0, 0, 3, 7]) (sp := [det _ 141 _, det _ 142 _, det _ 143 _, det _ 20 _]) [io r0] mixed st32 (by kernel_rfl) ⟨r0, trivial⟩
    ⟨Ob.d fun c => r_move rfl (c.p e19),
    Ob.d fun c => r_move rfl (c.p e3),
    Ob.d fun c => r_sub rfl (c.n 0 rfl) (c.n 1 rfl) (by omega),
    Ob.d fun c => r_assign rfl (c.n 2 rfl), trivial⟩ ?_
   intro a33 w33 τ33 st33 f33
   obtain ⟨e0, e1, e2, e3, e4, e18, e19, e21, -⟩ := f33.ks [(0, _), (1, _), (2, _), (3, _), (4, _), (18, _), (19, _), (21, _)] ⟨e0, e1, e2, e3, e4, e18, e19, e21, trivial⟩
   have e20 : get a33 20 = (.int .i64 ((mid : Int) + (m : Int) - (b : Int))) := f33.v 3 rfl
   replace r0 := f33.io 0 rfl
   clear f33
   show Code.wp _ _ _ a33 w33
   refine region_St (bf := [0, 1]) (sp := [det _ 144 _, det _ 21 _]) [io r0] mixed st33 (by kernel_rfl) ⟨r0, trivial⟩
    ⟨Ob.d fun c => r_move rfl (c.p e18),
    Ob.d fun c => r_assign rfl (c.n 0 rfl), trivial⟩ ?_
   intro a34 w34 τ34 st34 f34
   obtain ⟨e0, e1, e2, e3, e4, e18, e19, e20, -⟩ := f34.ks [(0, _), (1, _), (2, _), (3, _), (4, _), (18, _), (19, _), (20, _)] ⟨e0, e1, e2, e3, e4, e18, e19, e20, trivial⟩
   have e21 : get a34 21 = (.int .i64 ((mid : Int))) := f34.v 1 rfl
   replace r0 := f34.io 0 rfl
   clear f34
   show Code.wp _ _ _ a34 w34
   refine wp_seq ?_
   refine region_St (bf := [0, 1, 3]) (sp := [det _ 147 _, det _ 148 _, det _ 22 _]) [io r0] mixed st34 (by kernel_rfl) ⟨r0, trivial⟩
    ⟨Ob.d fun c => r_move rfl (c.p e19),
    Ob.d fun c => r_sub rfl (c.n 0 rfl) rfl (by omega),
    Ob.d fun c => r_assign rfl (c.n 1 rfl), trivial⟩ ?_
   intro a35 w35 τ35 st35 f35
   obtain ⟨e0, e1, e2, e3, e4, e18, e19, e20, e21, -⟩ := f35.ks [(0, _), (1, _), (2, _), (3, _), (4, _), (18, _), (19, _), (20, _), (21, _)] ⟨e0, e1, e2, e3, e4, e18, e19, e20, e21, trivial⟩
   have e22 : get a35 22 = (.int .i64 ((mid : Int) + (m : Int) - 1)) := f35.v 2 rfl
   replace r0 := f35.io 0 rfl
   clear f35
   show Code.wp _ _ _ a35 w35
   refine wp_seq ?_
   refine wp_block ?_
   refine wp_loop (fun a_ w_ => ∃ (s r : Nat) (τ : Nat → Foot), (mid + m ≤ s + b) ∧
          (s ≤ r) ∧
          (r ≤ mid) ∧
          (s + b = mid + m ∨ ltR (nth xs ((mid : Int) + (m : Int) - (s : Int))) (nth xs ((s : Int) - 1)) = false) ∧
          (r = mid ∨ ltR (nth xs ((mid : Int) + (m : Int) - 1 - (r : Int))) (nth xs (r : Int)) = true) ∧
          St (fun k => v.ownBlock = some k ∨ w.heap.size ≤ k) w 220 a_ w_ τ ∧
          get a_ 20 = (.int .i64 ((s : Int))) ∧
          get a_ 21 = (.int .i64 ((r : Int))) ∧
          get a_ 0 = v ∧
          get a_ 1 = (.int .i64 ((a : Int))) ∧
          get a_ 2 = (.int .i64 ((m : Int))) ∧
          get a_ 3 = (.int .i64 ((b : Int))) ∧
          get a_ 4 = (.func (.func 28) #[] #[]) ∧
          get a_ 18 = (.int .i64 ((mid : Int))) ∧
          get a_ 19 = (.int .i64 ((mid : Int) + (m : Int))) ∧
          get a_ 22 = (.int .i64 ((mid : Int) + (m : Int) - 1)) ∧
          ownR RowE 36 (xs) (τ 0) v w_) (fun a_ _ => (intOf (get a_ 21)).toNat - (intOf (get a_ 20)).toNat) ?_ ?_
   · refine ⟨mid + m - b, mid, τ35, ?_, ?_, ?_, ?_, ?_, st35, (e20.trans (int_eq (by omega))), (e21.trans (int_eq (by omega))), e0, e1, e2, e3, e4, e18, e19, e22, r0⟩
     · omega
     · omega
     · omega
     · left; omega
     · left; omega
   intro a36 w36 hI
   obtain ⟨s, r, τ36, q0, q1, q2, q3, q4, st36, e20, e21, e0, e1, e2, e3, e4, e18, e19, e22, r0⟩ := hI
   have m20 := e20
   have m21 := e21
   refine wp_seq ?_
   refine wp_seq ?_
   refine region_St (bf := [0, 0, 3]) (sp := [det _ 149 _, det _ 150 _, det _ 151 _]) [io r0] mixed st36 (by kernel_rfl) ⟨r0, trivial⟩
    ⟨Ob.d fun c => r_move rfl (c.p e20),
    Ob.d fun c => r_move rfl (c.p e21),
    Ob.d fun c => r_lss rfl (c.n 0 rfl) (c.n 1 rfl), trivial⟩ ?_
   intro a37 w37 τ37 st37 f37
   obtain ⟨e0, e1, e2, e3, e4, e18, e19, e20, e21, e22, -⟩ := f37.ks [(0, _), (1, _), (2, _), (3, _), (4, _), (18, _), (19, _), (20, _), (21, _), (22, _)] ⟨e0, e1, e2, e3, e4, e18, e19, e20, e21, e22, trivial⟩
   have e151 : get a37 151 = (.bool (decide ((s : Int) < (r : Int)))) := f37.v 2 rfl
   replace r0 := f37.io 0 rfl
   clear f37
   show Code.wp _ _ _ a37 w37
   refine wp_cond_split (t := decide ((s : Int) < (r : Int))) e151 (fun hc10 => ?_) (fun hc10 => ?_)
   · try simp only [decide_eq_true_eq] at hc10
     refine wp_skip ?_
     show Code.wp _ _ _ a37 w37
     refine wp_block ?_
     refine wp_seq ?_
     refine region_St (bf := [0, 0, 3, 7, 15, 31, 63]) (sp := [det _ 152 _, det _ 153 _, det _ 154 _, det _ 155 _, det _ 156 _, det _ 157 _, det _ 23 _]) [io r0] mixed st37 (by kernel_rfl) ⟨r0, trivial⟩
      ⟨Ob.d fun c => r_move rfl (c.p e20),
      Ob.d fun c => r_move rfl (c.p e21),
      Ob.d fun c => r_add rfl (c.n 0 rfl) (c.n 1 rfl) (by omega),
      Ob.d fun c => r_convIn rfl Try.underlying3 Try.underlying49 (c.n 2 rfl) (by omega) (by omega) (by decide),
      Ob.d fun c => r_shr1 rfl (c.n 3 rfl) rfl,
      Ob.d fun c => r_convIn rfl Try.underlying49 Try.underlying3 (c.n 4 rfl) (by omega) (by omega) (by decide),
      Ob.d fun c => r_assign rfl (c.n 5 rfl), trivial⟩ ?_
     intro a38 w38 τ38 st38 f38
     obtain ⟨e0, e1, e2, e3, e4, e18, e19, e20, e21, e22, e151, -⟩ := f38.ks [(0, _), (1, _), (2, _), (3, _), (4, _), (18, _), (19, _), (20, _), (21, _), (22, _), (151, _)] ⟨e0, e1, e2, e3, e4, e18, e19, e20, e21, e22, e151, trivial⟩
     have e23 : get a38 23 = (.int .i64 (((s : Int) + (r : Int)) / 2)) := f38.v 6 rfl
     replace r0 := f38.io 0 rfl
     clear f38
     obtain ⟨cc, hcc⟩ : ∃ x_ : Nat, ((s : Int) + (r : Int)) / 2 = (x_ : Int) := ⟨(s + r) / 2, by omega⟩
     replace e23 := e23.trans (int_eq hcc)
     show Code.wp _ _ _ a38 w38
     refine wp_seq ?_
     refine region_St (bf := [0, 0, 0, 0, 12, 30, 62, 0, 0, 384, 896, 2047, 4095, 8191]) (sp := [det _ 158 _, det _ 159 _, det _ 160 _, det _ 161 _, det _ 162 _, det _ 163 _, det _ 164 _, det _ 165 _, det _ 166 _, det _ 167 _, det _ 168 _, det _ 169 _, det _ 170 _, det _ 171 _]) [io r0] mixed st38 (by kernel_rfl) ⟨r0, trivial⟩
      ⟨Ob.d fun c => r_move rfl (c.p e4),
      Ob.d fun c => r_move rfl (c.p e0),
      Ob.d fun c => r_move rfl (c.p e22),
      Ob.d fun c => r_move rfl (c.p e23),
      Ob.d fun c => r_sub rfl (c.n 2 rfl) (c.n 3 rfl) (by omega),
      Ob.d fun c => r_indexAddr rfl Try.underlying22 Try.sizeOf36 (c.n 1 rfl) r0.isSl (c.n 4 rfl) (by omega) (by omega),
      Ob.d fun c => r_loadN (vs := [(.string ((nth xs ((mid : Int) + (m : Int) - 1 - (cc : Int))).1)), (.string ((nth xs ((mid : Int) + (m : Int) - 1 - (cc : Int))).2))]) rfl Try.isAgg36 Try.sizeOf36 (c.n 5 rfl) rfl (fun _ _ hj => ((c.io 0 rfl).1.sl).elem (nth_some (i := (mid : Int) + (m : Int) - 1 - (cc : Int)) (by omega) (by omega)) hj),
      Ob.d fun c => r_move rfl (c.p e0),
      Ob.d fun c => r_move rfl (c.p e23),
      Ob.d fun c => r_indexAddr rfl Try.underlying22 Try.sizeOf36 (c.n 7 rfl) r0.isSl (c.n 8 rfl) (by omega) (by omega),
      Ob.d fun c => r_loadN (vs := [(.string ((nth xs ((cc : Int))).1)), (.string ((nth xs ((cc : Int))).2))]) rfl Try.isAgg36 Try.sizeOf36 (c.n 9 rfl) rfl (fun _ _ hj => ((c.io 0 rfl).1.sl).elem (nth_some (i := (cc : Int)) (by omega) (by omega)) hj),
      Ob.c fun c => ⟨_, _, (e_call2 rfl (c.n 0 rfl) Try.call28 (c.n 6 rfl) (c.n 10 rfl)), cmpR_c (nth xs ((mid : Int) + (m : Int) - 1 - (cc : Int))) (nth xs ((cc : Int))) _⟩,
      Ob.d fun c => r_lss rfl (c.n 11 rfl) rfl,
      Ob.d fun c => r_not rfl (c.n 12 rfl), trivial⟩ ?_
     intro a39 w39 τ39 st39 f39
     obtain ⟨e0, e1, e2, e3, e4, e18, e19, e20, e21, e22, e23, e151, -⟩ := f39.ks [(0, _), (1, _), (2, _), (3, _), (4, _), (18, _), (19, _), (20, _), (21, _), (22, _), (23, _), (151, _)] ⟨e0, e1, e2, e3, e4, e18, e19, e20, e21, e22, e23, e151, trivial⟩
     have e171 : get a39 171 = (.bool (!(decide (cmpR (nth xs ((mid : Int) + (m : Int) - 1 - (cc : Int))) (nth xs ((cc : Int))) < 0)))) := f39.v 13 rfl
     replace r0 := f39.io 0 rfl
     clear f39
     show Code.wp _ _ _ a39 w39
     refine wp_cond_split (t := !(decide (cmpR (nth xs ((mid : Int) + (m : Int) - 1 - (cc : Int))) (nth xs ((cc : Int))) < 0))) e171 (fun hc11 => ?_) (fun hc11 => ?_)
     · try simp only [Bool.not_eq_true', Bool.not_eq_false', decide_eq_true_eq, decide_eq_false_iff_not, Int.not_lt] at hc11
       refine region_St (bf := [0, 1, 3]) (sp := [det _ 172 _, det _ 173 _, det _ 20 _]) [io r0] mixed st39 (by kernel_rfl) ⟨r0, trivial⟩
        ⟨Ob.d fun c => r_move rfl (c.p e23),
        Ob.d fun c => r_add rfl (c.n 0 rfl) rfl (by omega),
        Ob.d fun c => r_assign rfl (c.n 1 rfl), trivial⟩ ?_
       intro a40 w40 τ40 st40 f40
       obtain ⟨e0, e1, e2, e3, e4, e18, e19, e21, e22, e23, e151, e171, -⟩ := f40.ks [(0, _), (1, _), (2, _), (3, _), (4, _), (18, _), (19, _), (21, _), (22, _), (23, _), (151, _), (171, _)] ⟨e0, e1, e2, e3, e4, e18, e19, e21, e22, e23, e151, e171, trivial⟩
       have e20 : get a40 20 = (.int .i64 ((cc : Int) + 1)) := f40.v 2 rfl
       replace r0 := f40.io 0 rfl
       clear f40
       show _
       refine ⟨⟨cc + 1, r, τ40, ?_, ?_, ?_, ?_, ?_, st40, (e20.trans (int_eq (by omega))), (e21.trans (int_eq (by omega))), e0, e1, e2, e3, e4, e18, e19, e22, r0⟩, ?_⟩
       · omega
       · omega
       · omega
       · first | exact q3 | (right; rw [show (mid : Int) + (m : Int) - (((cc + 1 : Nat) : Int)) = (mid : Int) + (m : Int) - 1 - (cc : Int) by omega, show (((cc + 1 : Nat) : Int) - 1) = (cc : Int) by omega]; exact (by simp only [ltR, decide_eq_false_iff_not, Int.not_lt]; assumption))
       · first | exact q4 | (right; exact (by simp only [ltR, decide_eq_true_eq]; assumption))
       · simp only [m20, m21, e20, e21, intOf]; omega
     try simp only [Bool.not_eq_true', Bool.not_eq_false', decide_eq_true_eq, decide_eq_false_iff_not, Int.not_lt] at hc11
     refine region_St (bf := [0, 1]) (sp := [det _ 174 _, det _ 21 _]) [io r0] mixed st39 (by kernel_rfl) ⟨r0, trivial⟩
      ⟨Ob.d fun c => r_move rfl (c.p e23),
      Ob.d fun c => r_assign rfl (c.n 0 rfl), trivial⟩ ?_
     intro a41 w41 τ41 st41 f41
     obtain ⟨e0, e1, e2, e3, e4, e18, e19, e20, e22, e23, e151, e171, -⟩ := f41.ks [(0, _), (1, _), (2, _), (3, _), (4, _), (18, _), (19, _), (20, _), (22, _), (23, _), (151, _), (171, _)] ⟨e0, e1, e2, e3, e4, e18, e19, e20, e22, e23, e151, e171, trivial⟩
     have e21 : get a41 21 = (.int .i64 ((cc : Int))) := f41.v 1 rfl
     replace r0 := f41.io 0 rfl
     clear f41
     show _
     refine ⟨⟨s, cc, τ41, ?_, ?_, ?_, ?_, ?_, st41, (e20.trans (int_eq (by omega))), (e21.trans (int_eq (by omega))), e0, e1, e2, e3, e4, e18, e19, e22, r0⟩, ?_⟩
     · omega
     · omega
     · omega
     · first | exact q3 | (right; rw [show (mid : Int) + (m : Int) - (((cc + 1 : Nat) : Int)) = (mid : Int) + (m : Int) - 1 - (cc : Int) by omega, show (((cc + 1 : Nat) : Int) - 1) = (cc : Int) by omega]; exact (by simp only [ltR, decide_eq_false_iff_not, Int.not_lt]; assumption))
     · first | exact q4 | (right; exact (by simp only [ltR, decide_eq_true_eq]; assumption))
     · simp only [m20, m21, e20, e21, intOf]; omega
   try simp only [decide_eq_false_iff_not, Int.not_lt] at hc10
   refine wp_exit ?_
   repeat (with_reducible refine then_exit ?_)
   refine exit_here ?_
   show Code.wp _ _ _ a37 w37
   refine wp_seq ?_
   refine region_St (bf := [0, 0, 3, 7]) (sp := [det _ 175 _, det _ 176 _, det _ 177 _, det _ 24 _]) [io r0] mixed st37 (by kernel_rfl) ⟨r0, trivial⟩
    ⟨Ob.d fun c => r_move rfl (c.p e19),
    Ob.d fun c => r_move rfl (c.p e20),
    Ob.d fun c => r_sub rfl (c.n 0 rfl) (c.n 1 rfl) (by omega),
    Ob.d fun c => r_assign rfl (c.n 2 rfl), trivial⟩ ?_
   intro a42 w42 τ42 st42 f42
   obtain ⟨e0, e1, e2, e3, e4, e18, e20, -⟩ := f42.ks [(0, _), (1, _), (2, _), (3, _), (4, _), (18, _), (20, _)] ⟨e0, e1, e2, e3, e4, e18, e20, trivial⟩
   have e24 : get a42 24 = (.int .i64 ((mid : Int) + (m : Int) - (s : Int))) := f42.v 3 rfl
   replace r0 := f42.io 0 rfl
   clear f42
   obtain rfl : s = r := by omega
   obtain ⟨e, he⟩ : ∃ x_ : Nat, (mid : Int) + (m : Int) - (s : Int) = (x_ : Int) := ⟨mid + m - s, by omega⟩
   replace e24 := e24.trans (int_eq he)
   have hA : a ≤ s := by omega
   have hB : s ≤ m := by omega
   have hC : m ≤ e := by omega
   have hD : e ≤ b := by omega
   have hR : s + e = mid + m := by omega
   have hC1 : s = a ∨ e = b ∨ ltR (nth xs (e : Int)) (nth xs ((s : Int) - 1)) = false := by
     rcases q3 with h_ | h_
     · first | (left; omega) | (right; left; omega)
     · right; right; rw [← he]; exact h_
   have hC2 : s = m ∨ e = m ∨ ltR (nth xs ((e : Int) - 1)) (nth xs (s : Int)) = true := by
     rcases q4 with h_ | h_
     · first | (left; omega) | (right; left; omega)
     · right; right; rw [show (e : Int) - 1 = (mid : Int) + (m : Int) - 1 - (s : Int) by omega]; exact h_
   show Code.wp _ _ _ a42 w42
   refine wp_seq ?_
   refine wp_seq ?_
   refine region_St (bf := [0, 0, 3, 7, 15, 15, 63, 127]) (sp := [det _ 178 _, det _ 179 _, det _ 180 _, det _ 181 _, gdet _ 182 _ _, gdet _ 183 _ _, gdet _ 184 _ _, det _ 185 _]) [io r0] mixed st42 (by kernel_rfl) ⟨r0, trivial⟩
    ⟨Ob.d fun c => r_move rfl (c.p e20),
    Ob.d fun c => r_move rfl (c.p e2),
    Ob.d fun c => r_lss rfl (c.n 0 rfl) (c.n 1 rfl),
    Ob.d fun c => r_move rfl (c.n 2 rfl),
    Ob.g 3 true rfl fun c hpc => r_move rfl (c.p e2),
    Ob.g 3 true rfl fun c hpc => r_move rfl (c.p e24),
    Ob.g 3 true rfl fun c hpc => r_lss rfl (c.m 4 rfl hpc) (c.m 5 rfl hpc),
    Ob.d fun c => r_and rfl (c.n 3 rfl) (fun h => c.m 6 rfl h), trivial⟩ ?_
   intro a43 w43 τ43 st43 f43
   obtain ⟨e0, e1, e2, e3, e4, e18, e20, e24, -⟩ := f43.ks [(0, _), (1, _), (2, _), (3, _), (4, _), (18, _), (20, _), (24, _)] ⟨e0, e1, e2, e3, e4, e18, e20, e24, trivial⟩
   have e185 : get a43 185 = (.bool ((decide ((s : Int) < (m : Int))) && (decide ((m : Int) < (e : Int))))) := f43.v 7 rfl
   replace r0 := f43.io 0 rfl
   clear f43
   show Code.wp _ _ _ a43 w43
   refine wp_cond_split (t := (decide ((s : Int) < (m : Int))) && (decide ((m : Int) < (e : Int)))) e185 (fun hc12 => ?_) (fun hc12 => ?_)
   · try simp only [Bool.and_eq_true, decide_eq_true_eq] at hc12
     refine region_St (bf := [0, 0, 0, 0, 0, 31]) (sp := [det _ 186 _, det _ 187 _, det _ 188 _, det _ 189 _, det _ 190 _, own _ _ _ 0 0 _]) [io r0] mixed st43 (by kernel_rfl) ⟨r0, trivial⟩
      ⟨Ob.d fun c => r_move rfl (c.p e0),
      Ob.d fun c => r_move rfl (c.p e20),
      Ob.d fun c => r_move rfl (c.p e2),
      Ob.d fun c => r_move rfl (c.p e24),
      Ob.d fun c => r_move rfl (c.p e4),
      Ob.callIn rfl rfl rfl (by decide) (fun _ a_ _ _ c => ⟨_, _, (e_call5 rfl rfl Try.call44 (c.n 0 rfl) (c.n 1 rfl) (c.n 2 rfl) (c.n 3 rfl) (c.n 4 rfl)), c.p e0, c.io 0 rfl, fun ho_ => rowRot_c v xs (s : Int) (m : Int) (e : Int) _ ho_ (by omega) (by omega) (by omega) (by omega)⟩), trivial⟩ ?_
     intro a44 w44 τ44 st44 f44
     obtain ⟨e0, e1, e3, e4, e18, e20, e24, -⟩ := f44.ks [(0, _), (1, _), (3, _), (4, _), (18, _), (20, _), (24, _)] ⟨e0, e1, e3, e4, e18, e20, e24, trivial⟩
     replace r0 : ownR RowE 36 (rotF xs (s : Int).toNat (m : Int).toNat (e : Int).toNat) (τ44 0) v w44 := f44.ro 5 e0 rfl
     clear f44
     show Code.wp _ _ _ a44 w44
     refine wp_seq ?_
     refine wp_seq ?_
     refine region_St (bf := [0, 0, 3, 7, 15, 15, 63, 127]) (sp := [det _ 192 _, det _ 193 _, det _ 194 _, det _ 195 _, gdet _ 196 _ _, gdet _ 197 _ _, gdet _ 198 _ _, det _ 199 _]) [io r0] mixed st44 (by kernel_rfl) ⟨r0, trivial⟩
      ⟨Ob.d fun c => r_move rfl (c.p e1),
      Ob.d fun c => r_move rfl (c.p e20),
      Ob.d fun c => r_lss rfl (c.n 0 rfl) (c.n 1 rfl),
      Ob.d fun c => r_move rfl (c.n 2 rfl),
      Ob.g 3 true rfl fun c hpc => r_move rfl (c.p e20),
      Ob.g 3 true rfl fun c hpc => r_move rfl (c.p e18),
      Ob.g 3 true rfl fun c hpc => r_lss rfl (c.m 4 rfl hpc) (c.m 5 rfl hpc),
      Ob.d fun c => r_and rfl (c.n 3 rfl) (fun h => c.m 6 rfl h), trivial⟩ ?_
     intro a45 w45 τ45 st45 f45
     obtain ⟨e0, e1, e3, e4, e18, e20, e24, -⟩ := f45.ks [(0, _), (1, _), (3, _), (4, _), (18, _), (20, _), (24, _)] ⟨e0, e1, e3, e4, e18, e20, e24, trivial⟩
     have e199 : get a45 199 = (.bool ((decide ((a : Int) < (s : Int))) && (decide ((s : Int) < (mid : Int))))) := f45.v 7 rfl
     replace r0 := f45.io 0 rfl
     clear f45
     show Code.wp _ _ _ a45 w45
     refine wp_cond_split (t := (decide ((a : Int) < (s : Int))) && (decide ((s : Int) < (mid : Int)))) e199 (fun hc13 => ?_) (fun hc13 => ?_)
     · try simp only [Bool.and_eq_true, decide_eq_true_eq] at hc13
       refine region_St (bf := [0, 0, 0, 0, 0, 31]) (sp := [det _ 200 _, det _ 201 _, det _ 202 _, det _ 203 _, det _ 204 _, own _ _ _ 0 0 _]) [io r0] mixed st45 (by kernel_rfl) ⟨r0, trivial⟩
        ⟨Ob.d fun c => r_move rfl (c.p e0),
        Ob.d fun c => r_move rfl (c.p e1),
        Ob.d fun c => r_move rfl (c.p e20),
        Ob.d fun c => r_move rfl (c.p e18),
        Ob.d fun c => r_move rfl (c.p e4),
        Ob.callIn rfl rfl rfl (by decide) (fun _ a_ _ _ c => ⟨_, _, (e_call5 rfl rfl Try.call43 (c.n 0 rfl) (c.n 1 rfl) (c.n 2 rfl) (c.n 3 rfl) (c.n 4 rfl)), c.p e0, c.io 0 rfl, fun ho_ => ih v (rotF xs (s : Int).toNat (m : Int).toNat (e : Int).toNat) a s mid _ ho_ (by omega) (by omega) (by (try rw [mF_len (by omega) (by omega) (by (try rw [rotF_len (by omega) (by omega) (by omega)]); omega)]); (try rw [rotF_len (by omega) (by omega) (by omega)]); omega) (by (try rw [mF_len (by omega) (by omega) (by (try rw [rotF_len (by omega) (by omega) (by omega)]); omega)]); (try rw [rotF_len (by omega) (by omega) (by omega)]); omega) (by omega) (sym_pre1 hS1 hS2 hA hB hC hD h3 hR (ys := rotF xs (s : Int).toNat (m : Int).toNat (e : Int).toNat) (by first | rfl | exact (rotF_triv (by omega) (by omega) (by omega)).symm)).1 (sym_pre1 hS1 hS2 hA hB hC hD h3 hR (ys := rotF xs (s : Int).toNat (m : Int).toNat (e : Int).toNat) (by first | rfl | exact (rotF_triv (by omega) (by omega) (by omega)).symm)).2⟩), trivial⟩ ?_
       intro a46 w46 τ46 st46 f46
       obtain ⟨e0, e3, e4, e18, e24, -⟩ := f46.ks [(0, _), (3, _), (4, _), (18, _), (24, _)] ⟨e0, e3, e4, e18, e24, trivial⟩
       replace r0 : ownR RowE 36 (mF ltR (rotF xs (s : Int).toNat (m : Int).toNat (e : Int).toNat) a s mid) (τ46 0) v w46 := f46.ro 5 e0 rfl
       clear f46
       show Code.wp _ _ _ a46 w46
       refine wp_seq ?_
       refine region_St (bf := [0, 0, 3, 7, 15, 15, 63, 127]) (sp := [det _ 206 _, det _ 207 _, det _ 208 _, det _ 209 _, gdet _ 210 _ _, gdet _ 211 _ _, gdet _ 212 _ _, det _ 213 _]) [io r0] mixed st46 (by kernel_rfl) ⟨r0, trivial⟩
        ⟨Ob.d fun c => r_move rfl (c.p e18),
        Ob.d fun c => r_move rfl (c.p e24),
        Ob.d fun c => r_lss rfl (c.n 0 rfl) (c.n 1 rfl),
        Ob.d fun c => r_move rfl (c.n 2 rfl),
        Ob.g 3 true rfl fun c hpc => r_move rfl (c.p e24),
        Ob.g 3 true rfl fun c hpc => r_move rfl (c.p e3),
        Ob.g 3 true rfl fun c hpc => r_lss rfl (c.m 4 rfl hpc) (c.m 5 rfl hpc),
        Ob.d fun c => r_and rfl (c.n 3 rfl) (fun h => c.m 6 rfl h), trivial⟩ ?_
       intro a47 w47 τ47 st47 f47
       obtain ⟨e0, e3, e4, e18, e24, -⟩ := f47.ks [(0, _), (3, _), (4, _), (18, _), (24, _)] ⟨e0, e3, e4, e18, e24, trivial⟩
       have e213 : get a47 213 = (.bool ((decide ((mid : Int) < (e : Int))) && (decide ((e : Int) < (b : Int))))) := f47.v 7 rfl
       replace r0 := f47.io 0 rfl
       clear f47
       show Code.wp _ _ _ a47 w47
       refine wp_cond_split (t := (decide ((mid : Int) < (e : Int))) && (decide ((e : Int) < (b : Int)))) e213 (fun hc14 => ?_) (fun hc14 => ?_)
       · try simp only [Bool.and_eq_true, decide_eq_true_eq] at hc14
         refine region_St (bf := [0, 0, 0, 0, 0, 31]) (sp := [det _ 214 _, det _ 215 _, det _ 216 _, det _ 217 _, det _ 218 _, own _ _ _ 0 0 _]) [io r0] mixed st47 (by kernel_rfl) ⟨r0, trivial⟩
          ⟨Ob.d fun c => r_move rfl (c.p e0),
          Ob.d fun c => r_move rfl (c.p e18),
          Ob.d fun c => r_move rfl (c.p e24),
          Ob.d fun c => r_move rfl (c.p e3),
          Ob.d fun c => r_move rfl (c.p e4),
          Ob.callIn rfl rfl rfl (by decide) (fun _ a_ _ _ c => ⟨_, _, (e_call5 rfl rfl Try.call43 (c.n 0 rfl) (c.n 1 rfl) (c.n 2 rfl) (c.n 3 rfl) (c.n 4 rfl)), c.p e0, c.io 0 rfl, fun ho_ => ih v (mF ltR (rotF xs (s : Int).toNat (m : Int).toNat (e : Int).toNat) a s mid) mid e b _ ho_ (by omega) (by omega) (by (try rw [mF_len (by omega) (by omega) (by (try rw [rotF_len (by omega) (by omega) (by omega)]); omega)]); (try rw [rotF_len (by omega) (by omega) (by omega)]); omega) (by (try rw [mF_len (by omega) (by omega) (by (try rw [rotF_len (by omega) (by omega) (by omega)]); omega)]); (try rw [rotF_len (by omega) (by omega) (by omega)]); omega) (by omega) (sym_pre2 hS1 hS2 hA hB hC hD h3 hR (ys := rotF xs (s : Int).toNat (m : Int).toNat (e : Int).toNat) (zs := mF ltR (rotF xs (s : Int).toNat (m : Int).toNat (e : Int).toNat) a s mid) (by first | rfl | exact (rotF_triv (by omega) (by omega) (by omega)).symm) (by first | rfl | exact (mF_triv (by omega) (by omega) (by omega)).symm)).1 (sym_pre2 hS1 hS2 hA hB hC hD h3 hR (ys := rotF xs (s : Int).toNat (m : Int).toNat (e : Int).toNat) (zs := mF ltR (rotF xs (s : Int).toNat (m : Int).toNat (e : Int).toNat) a s mid) (by first | rfl | exact (rotF_triv (by omega) (by omega) (by omega)).symm) (by first | rfl | exact (mF_triv (by omega) (by omega) (by omega)).symm)).2⟩), trivial⟩ ?_
         intro a48 w48 τ48 st48 f48
         obtain ⟨e0, -⟩ := f48.ks [(0, _)] ⟨e0, trivial⟩
         replace r0 : ownR RowE 36 (mF ltR (mF ltR (rotF xs (s : Int).toNat (m : Int).toNat (e : Int).toNat) a s mid) mid e b) (τ48 0) v w48 := f48.ro 5 e0 rfl
         clear f48
         refine end0 (fn := Try.f43) rfl st48.defers ?_
         exact ⟨rfl, (sym_final ltR_swo hS1 hS2 hA hB hC hD h3 hC1 hC2 hR (ys := rotF xs (s : Int).toNat (m : Int).toNat (e : Int).toNat) (zs := mF ltR (rotF xs (s : Int).toNat (m : Int).toNat (e : Int).toNat) a s mid) (us := mF ltR (mF ltR (rotF xs (s : Int).toNat (m : Int).toNat (e : Int).toNat) a s mid) mid e b) (by first | rfl | exact (rotF_triv (by omega) (by omega) (by omega)).symm) (by first | rfl | exact (mF_triv (by omega) (by omega) (by omega)).symm) (by first | rfl | exact (mF_triv (by omega) (by omega) (by omega)).symm)) ▸ r0.1, st48.extIn⟩
       try simp only [Bool.and_eq_false_iff, decide_eq_false_iff_not, Int.not_lt] at hc14
       refine wp_skip ?_
       refine end0 (fn := Try.f43) rfl st47.defers ?_
       exact ⟨rfl, (sym_final ltR_swo hS1 hS2 hA hB hC hD h3 hC1 hC2 hR (ys := rotF xs (s : Int).toNat (m : Int).toNat (e : Int).toNat) (zs := mF ltR (rotF xs (s : Int).toNat (m : Int).toNat (e : Int).toNat) a s mid) (us := mF ltR (rotF xs (s : Int).toNat (m : Int).toNat (e : Int).toNat) a s mid) (by first | rfl | exact (rotF_triv (by omega) (by omega) (by omega)).symm) (by first | rfl | exact (mF_triv (by omega) (by omega) (by omega)).symm) (by first | rfl | exact (mF_triv (by omega) (by omega) (by omega)).symm)) ▸ r0.1, st47.extIn⟩
     try simp only [Bool.and_eq_false_iff, decide_eq_false_iff_not, Int.not_lt] at hc13
     refine wp_skip ?_
     show Code.wp _ _ _ a45 w45
     refine wp_seq ?_
     refine region_St (bf := [0, 0, 3, 7, 15, 15, 63, 127]) (sp := [det _ 206 _, det _ 207 _, det _ 208 _, det _ 209 _, gdet _ 210 _ _, gdet _ 211 _ _, gdet _ 212 _ _, det _ 213 _]) [io r0] mixed st45 (by kernel_rfl) ⟨r0, trivial⟩
      ⟨Ob.d fun c => r_move rfl (c.p e18),
      Ob.d fun c => r_move rfl (c.p e24),
      Ob.d fun c => r_lss rfl (c.n 0 rfl) (c.n 1 rfl),
      Ob.d fun c => r_move rfl (c.n 2 rfl),
      Ob.g 3 true rfl fun c hpc => r_move rfl (c.p e24),
      Ob.g 3 true rfl fun c hpc => r_move rfl (c.p e3),
      Ob.g 3 true rfl fun c hpc => r_lss rfl (c.m 4 rfl hpc) (c.m 5 rfl hpc),
      Ob.d fun c => r_and rfl (c.n 3 rfl) (fun h => c.m 6 rfl h), trivial⟩ ?_
     intro a49 w49 τ49 st49 f49
     obtain ⟨e0, e3, e4, e18, e24, -⟩ := f49.ks [(0, _), (3, _), (4, _), (18, _), (24, _)] ⟨e0, e3, e4, e18, e24, trivial⟩
     have e213 : get a49 213 = (.bool ((decide ((mid : Int) < (e : Int))) && (decide ((e : Int) < (b : Int))))) := f49.v 7 rfl
     replace r0 := f49.io 0 rfl
     clear f49
     show Code.wp _ _ _ a49 w49
     refine wp_cond_split (t := (decide ((mid : Int) < (e : Int))) && (decide ((e : Int) < (b : Int)))) e213 (fun hc15 => ?_) (fun hc15 => ?_)
     · try simp only [Bool.and_eq_true, decide_eq_true_eq] at hc15
       refine region_St (bf := [0, 0, 0, 0, 0, 31]) (sp := [det _ 214 _, det _ 215 _, det _ 216 _, det _ 217 _, det _ 218 _, own _ _ _ 0 0 _]) [io r0] mixed st49 (by kernel_rfl) ⟨r0, trivial⟩
        ⟨Ob.d fun c => r_move rfl (c.p e0),
        Ob.d fun c => r_move rfl (c.p e18),
        Ob.d fun c => r_move rfl (c.p e24),
        Ob.d fun c => r_move rfl (c.p e3),
        Ob.d fun c => r_move rfl (c.p e4),
        Ob.callIn rfl rfl rfl (by decide) (fun _ a_ _ _ c => ⟨_, _, (e_call5 rfl rfl Try.call43 (c.n 0 rfl) (c.n 1 rfl) (c.n 2 rfl) (c.n 3 rfl) (c.n 4 rfl)), c.p e0, c.io 0 rfl, fun ho_ => ih v (rotF xs (s : Int).toNat (m : Int).toNat (e : Int).toNat) mid e b _ ho_ (by omega) (by omega) (by (try rw [mF_len (by omega) (by omega) (by (try rw [rotF_len (by omega) (by omega) (by omega)]); omega)]); (try rw [rotF_len (by omega) (by omega) (by omega)]); omega) (by (try rw [mF_len (by omega) (by omega) (by (try rw [rotF_len (by omega) (by omega) (by omega)]); omega)]); (try rw [rotF_len (by omega) (by omega) (by omega)]); omega) (by omega) (sym_pre2 hS1 hS2 hA hB hC hD h3 hR (ys := rotF xs (s : Int).toNat (m : Int).toNat (e : Int).toNat) (zs := rotF xs (s : Int).toNat (m : Int).toNat (e : Int).toNat) (by first | rfl | exact (rotF_triv (by omega) (by omega) (by omega)).symm) (by first | rfl | exact (mF_triv (by omega) (by omega) (by omega)).symm)).1 (sym_pre2 hS1 hS2 hA hB hC hD h3 hR (ys := rotF xs (s : Int).toNat (m : Int).toNat (e : Int).toNat) (zs := rotF xs (s : Int).toNat (m : Int).toNat (e : Int).toNat) (by first | rfl | exact (rotF_triv (by omega) (by omega) (by omega)).symm) (by first | rfl | exact (mF_triv (by omega) (by omega) (by omega)).symm)).2⟩), trivial⟩ ?_
       intro a50 w50 τ50 st50 f50
       obtain ⟨e0, -⟩ := f50.ks [(0, _)] ⟨e0, trivial⟩
       replace r0 : ownR RowE 36 (mF ltR (rotF xs (s : Int).toNat (m : Int).toNat (e : Int).toNat) mid e b) (τ50 0) v w50 := f50.ro 5 e0 rfl
       clear f50
       refine end0 (fn := Try.f43) rfl st50.defers ?_
       exact ⟨rfl, (sym_final ltR_swo hS1 hS2 hA hB hC hD h3 hC1 hC2 hR (ys := rotF xs (s : Int).toNat (m : Int).toNat (e : Int).toNat) (zs := rotF xs (s : Int).toNat (m : Int).toNat (e : Int).toNat) (us := mF ltR (rotF xs (s : Int).toNat (m : Int).toNat (e : Int).toNat) mid e b) (by first | rfl | exact (rotF_triv (by omega) (by omega) (by omega)).symm) (by first | rfl | exact (mF_triv (by omega) (by omega) (by omega)).symm) (by first | rfl | exact (mF_triv (by omega) (by omega) (by omega)).symm)) ▸ r0.1, st50.extIn⟩
     try simp only [Bool.and_eq_false_iff, decide_eq_false_iff_not, Int.not_lt] at hc15
     refine wp_skip ?_
     refine end0 (fn := Try.f43) rfl st49.defers ?_
     exact ⟨rfl, (sym_final ltR_swo hS1 hS2 hA hB hC hD h3 hC1 hC2 hR (ys := rotF xs (s : Int).toNat (m : Int).toNat (e : Int).toNat) (zs := rotF xs (s : Int).toNat (m : Int).toNat (e : Int).toNat) (us := rotF xs (s : Int).toNat (m : Int).toNat (e : Int).toNat) (by first | rfl | exact (rotF_triv (by omega) (by omega) (by omega)).symm) (by first | rfl | exact (mF_triv (by omega) (by omega) (by omega)).symm) (by first | rfl | exact (mF_triv (by omega) (by omega) (by omega)).symm)) ▸ r0.1, st49.extIn⟩
   try simp only [Bool.and_eq_false_iff, decide_eq_false_iff_not, Int.not_lt] at hc12
   refine wp_skip ?_
   show Code.wp _ _ _ a43 w43
   refine wp_seq ?_
   refine wp_seq ?_
   refine region_St (bf := [0, 0, 3, 7, 15, 15, 63, 127]) (sp := [det _ 192 _, det _ 193 _, det _ 194 _, det _ 195 _, gdet _ 196 _ _, gdet _ 197 _ _, gdet _ 198 _ _, det _ 199 _]) [io r0] mixed st43 (by kernel_rfl) ⟨r0, trivial⟩
    ⟨Ob.d fun c => r_move rfl (c.p e1),
    Ob.d fun c => r_move rfl (c.p e20),
    Ob.d fun c => r_lss rfl (c.n 0 rfl) (c.n 1 rfl),
    Ob.d fun c => r_move rfl (c.n 2 rfl),
    Ob.g 3 true rfl fun c hpc => r_move rfl (c.p e20),
    Ob.g 3 true rfl fun c hpc => r_move rfl (c.p e18),
    Ob.g 3 true rfl fun c hpc => r_lss rfl (c.m 4 rfl hpc) (c.m 5 rfl hpc),
    Ob.d fun c => r_and rfl (c.n 3 rfl) (fun h => c.m 6 rfl h), trivial⟩ ?_
   intro a51 w51 τ51 st51 f51
   obtain ⟨e0, e1, e3, e4, e18, e20, e24, -⟩ := f51.ks [(0, _), (1, _), (3, _), (4, _), (18, _), (20, _), (24, _)] ⟨e0, e1, e3, e4, e18, e20, e24, trivial⟩
   have e199 : get a51 199 = (.bool ((decide ((a : Int) < (s : Int))) && (decide ((s : Int) < (mid : Int))))) := f51.v 7 rfl
   replace r0 := f51.io 0 rfl
   clear f51
   show Code.wp _ _ _ a51 w51
   refine wp_cond_split (t := (decide ((a : Int) < (s : Int))) && (decide ((s : Int) < (mid : Int)))) e199 (fun hc16 => ?_) (fun hc16 => ?_)
   · try simp only [Bool.and_eq_true, decide_eq_true_eq] at hc16
     refine region_St (bf := [0, 0, 0, 0, 0, 31]) (sp := [det _ 200 _, det _ 201 _, det _ 202 _, det _ 203 _, det _ 204 _, own _ _ _ 0 0 _]) [io r0] mixed st51 (by kernel_rfl) ⟨r0, trivial⟩
      ⟨Ob.d fun c => r_move rfl (c.p e0),
      Ob.d fun c => r_move rfl (c.p e1),
      Ob.d fun c => r_move rfl (c.p e20),
      Ob.d fun c => r_move rfl (c.p e18),
      Ob.d fun c => r_move rfl (c.p e4),
      Ob.callIn rfl rfl rfl (by decide) (fun _ a_ _ _ c => ⟨_, _, (e_call5 rfl rfl Try.call43 (c.n 0 rfl) (c.n 1 rfl) (c.n 2 rfl) (c.n 3 rfl) (c.n 4 rfl)), c.p e0, c.io 0 rfl, fun ho_ => ih v xs a s mid _ ho_ (by omega) (by omega) (by (try rw [mF_len (by omega) (by omega) (by (try rw [rotF_len (by omega) (by omega) (by omega)]); omega)]); (try rw [rotF_len (by omega) (by omega) (by omega)]); omega) (by (try rw [mF_len (by omega) (by omega) (by (try rw [rotF_len (by omega) (by omega) (by omega)]); omega)]); (try rw [rotF_len (by omega) (by omega) (by omega)]); omega) (by omega) (sym_pre1 hS1 hS2 hA hB hC hD h3 hR (ys := xs) (by first | rfl | exact (rotF_triv (by omega) (by omega) (by omega)).symm)).1 (sym_pre1 hS1 hS2 hA hB hC hD h3 hR (ys := xs) (by first | rfl | exact (rotF_triv (by omega) (by omega) (by omega)).symm)).2⟩), trivial⟩ ?_
     intro a52 w52 τ52 st52 f52
     obtain ⟨e0, e3, e4, e18, e24, -⟩ := f52.ks [(0, _), (3, _), (4, _), (18, _), (24, _)] ⟨e0, e3, e4, e18, e24, trivial⟩
     replace r0 : ownR RowE 36 (mF ltR xs a s mid) (τ52 0) v w52 := f52.ro 5 e0 rfl
     clear f52
     show Code.wp _ _ _ a52 w52
     refine wp_seq ?_
     refine region_St (bf := [0, 0, 3, 7, 15, 15, 63, 127]) (sp := [det _ 206 _, det _ 207 _, det _ 208 _, det _ 209 _, gdet _ 210 _ _, gdet _ 211 _ _, gdet _ 212 _ _, det _ 213 _]) [io r0] mixed st52 (by kernel_rfl) ⟨r0, trivial⟩
      ⟨Ob.d fun c => r_move rfl (c.p e18),
      Ob.d fun c => r_move rfl (c.p e24),
      Ob.d fun c => r_lss rfl (c.n 0 rfl) (c.n 1 rfl),
      Ob.d fun c => r_move rfl (c.n 2 rfl),
      Ob.g 3 true rfl fun c hpc => r_move rfl (c.p e24),
      Ob.g 3 true rfl fun c hpc => r_move rfl (c.p e3),
      Ob.g 3 true rfl fun c hpc => r_lss rfl (c.m 4 rfl hpc) (c.m 5 rfl hpc),
      Ob.d fun c => r_and rfl (c.n 3 rfl) (fun h => c.m 6 rfl h), trivial⟩ ?_
     intro a53 w53 τ53 st53 f53
     obtain ⟨e0, e3, e4, e18, e24, -⟩ := f53.ks [(0, _), (3, _), (4, _), (18, _), (24, _)] ⟨e0, e3, e4, e18, e24, trivial⟩
     have e213 : get a53 213 = (.bool ((decide ((mid : Int) < (e : Int))) && (decide ((e : Int) < (b : Int))))) := f53.v 7 rfl
     replace r0 := f53.io 0 rfl
     clear f53
     show Code.wp _ _ _ a53 w53
     refine wp_cond_split (t := (decide ((mid : Int) < (e : Int))) && (decide ((e : Int) < (b : Int)))) e213 (fun hc17 => ?_) (fun hc17 => ?_)
     · try simp only [Bool.and_eq_true, decide_eq_true_eq] at hc17
       refine region_St (bf := [0, 0, 0, 0, 0, 31]) (sp := [det _ 214 _, det _ 215 _, det _ 216 _, det _ 217 _, det _ 218 _, own _ _ _ 0 0 _]) [io r0] mixed st53 (by kernel_rfl) ⟨r0, trivial⟩
        ⟨Ob.d fun c => r_move rfl (c.p e0),
        Ob.d fun c => r_move rfl (c.p e18),
        Ob.d fun c => r_move rfl (c.p e24),
        Ob.d fun c => r_move rfl (c.p e3),
        Ob.d fun c => r_move rfl (c.p e4),
        Ob.callIn rfl rfl rfl (by decide) (fun _ a_ _ _ c => ⟨_, _, (e_call5 rfl rfl Try.call43 (c.n 0 rfl) (c.n 1 rfl) (c.n 2 rfl) (c.n 3 rfl) (c.n 4 rfl)), c.p e0, c.io 0 rfl, fun ho_ => ih v (mF ltR xs a s mid) mid e b _ ho_ (by omega) (by omega) (by (try rw [mF_len (by omega) (by omega) (by (try rw [rotF_len (by omega) (by omega) (by omega)]); omega)]); (try rw [rotF_len (by omega) (by omega) (by omega)]); omega) (by (try rw [mF_len (by omega) (by omega) (by (try rw [rotF_len (by omega) (by omega) (by omega)]); omega)]); (try rw [rotF_len (by omega) (by omega) (by omega)]); omega) (by omega) (sym_pre2 hS1 hS2 hA hB hC hD h3 hR (ys := xs) (zs := mF ltR xs a s mid) (by first | rfl | exact (rotF_triv (by omega) (by omega) (by omega)).symm) (by first | rfl | exact (mF_triv (by omega) (by omega) (by omega)).symm)).1 (sym_pre2 hS1 hS2 hA hB hC hD h3 hR (ys := xs) (zs := mF ltR xs a s mid) (by first | rfl | exact (rotF_triv (by omega) (by omega) (by omega)).symm) (by first | rfl | exact (mF_triv (by omega) (by omega) (by omega)).symm)).2⟩), trivial⟩ ?_
       intro a54 w54 τ54 st54 f54
       obtain ⟨e0, -⟩ := f54.ks [(0, _)] ⟨e0, trivial⟩
       replace r0 : ownR RowE 36 (mF ltR (mF ltR xs a s mid) mid e b) (τ54 0) v w54 := f54.ro 5 e0 rfl
       clear f54
       refine end0 (fn := Try.f43) rfl st54.defers ?_
       exact ⟨rfl, (sym_final ltR_swo hS1 hS2 hA hB hC hD h3 hC1 hC2 hR (ys := xs) (zs := mF ltR xs a s mid) (us := mF ltR (mF ltR xs a s mid) mid e b) (by first | rfl | exact (rotF_triv (by omega) (by omega) (by omega)).symm) (by first | rfl | exact (mF_triv (by omega) (by omega) (by omega)).symm) (by first | rfl | exact (mF_triv (by omega) (by omega) (by omega)).symm)) ▸ r0.1, st54.extIn⟩
     try simp only [Bool.and_eq_false_iff, decide_eq_false_iff_not, Int.not_lt] at hc17
     refine wp_skip ?_
     refine end0 (fn := Try.f43) rfl st53.defers ?_
     exact ⟨rfl, (sym_final ltR_swo hS1 hS2 hA hB hC hD h3 hC1 hC2 hR (ys := xs) (zs := mF ltR xs a s mid) (us := mF ltR xs a s mid) (by first | rfl | exact (rotF_triv (by omega) (by omega) (by omega)).symm) (by first | rfl | exact (mF_triv (by omega) (by omega) (by omega)).symm) (by first | rfl | exact (mF_triv (by omega) (by omega) (by omega)).symm)) ▸ r0.1, st53.extIn⟩
   try simp only [Bool.and_eq_false_iff, decide_eq_false_iff_not, Int.not_lt] at hc16
   refine wp_skip ?_
   show Code.wp _ _ _ a51 w51
   refine wp_seq ?_
   refine region_St (bf := [0, 0, 3, 7, 15, 15, 63, 127]) (sp := [det _ 206 _, det _ 207 _, det _ 208 _, det _ 209 _, gdet _ 210 _ _, gdet _ 211 _ _, gdet _ 212 _ _, det _ 213 _]) [io r0] mixed st51 (by kernel_rfl) ⟨r0, trivial⟩
    ⟨Ob.d fun c => r_move rfl (c.p e18),
    Ob.d fun c => r_move rfl (c.p e24),
    Ob.d fun c => r_lss rfl (c.n 0 rfl) (c.n 1 rfl),
    Ob.d fun c => r_move rfl (c.n 2 rfl),
    Ob.g 3 true rfl fun c hpc => r_move rfl (c.p e24),
    Ob.g 3 true rfl fun c hpc => r_move rfl (c.p e3),
    Ob.g 3 true rfl fun c hpc => r_lss rfl (c.m 4 rfl hpc) (c.m 5 rfl hpc),
    Ob.d fun c => r_and rfl (c.n 3 rfl) (fun h => c.m 6 rfl h), trivial⟩ ?_
   intro a55 w55 τ55 st55 f55
   obtain ⟨e0, e3, e4, e18, e24, -⟩ := f55.ks [(0, _), (3, _), (4, _), (18, _), (24, _)] ⟨e0, e3, e4, e18, e24, trivial⟩
   have e213 : get a55 213 = (.bool ((decide ((mid : Int) < (e : Int))) && (decide ((e : Int) < (b : Int))))) := f55.v 7 rfl
   replace r0 := f55.io 0 rfl
   clear f55
   show Code.wp _ _ _ a55 w55
   refine wp_cond_split (t := (decide ((mid : Int) < (e : Int))) && (decide ((e : Int) < (b : Int)))) e213 (fun hc18 => ?_) (fun hc18 => ?_)
   · try simp only [Bool.and_eq_true, decide_eq_true_eq] at hc18
     refine region_St (bf := [0, 0, 0, 0, 0, 31]) (sp := [det _ 214 _, det _ 215 _, det _ 216 _, det _ 217 _, det _ 218 _, own _ _ _ 0 0 _]) [io r0] mixed st55 (by kernel_rfl) ⟨r0, trivial⟩
      ⟨Ob.d fun c => r_move rfl (c.p e0),
      Ob.d fun c => r_move rfl (c.p e18),
      Ob.d fun c => r_move rfl (c.p e24),
      Ob.d fun c => r_move rfl (c.p e3),
      Ob.d fun c => r_move rfl (c.p e4),
      Ob.callIn rfl rfl rfl (by decide) (fun _ a_ _ _ c => ⟨_, _, (e_call5 rfl rfl Try.call43 (c.n 0 rfl) (c.n 1 rfl) (c.n 2 rfl) (c.n 3 rfl) (c.n 4 rfl)), c.p e0, c.io 0 rfl, fun ho_ => ih v xs mid e b _ ho_ (by omega) (by omega) (by (try rw [mF_len (by omega) (by omega) (by (try rw [rotF_len (by omega) (by omega) (by omega)]); omega)]); (try rw [rotF_len (by omega) (by omega) (by omega)]); omega) (by (try rw [mF_len (by omega) (by omega) (by (try rw [rotF_len (by omega) (by omega) (by omega)]); omega)]); (try rw [rotF_len (by omega) (by omega) (by omega)]); omega) (by omega) (sym_pre2 hS1 hS2 hA hB hC hD h3 hR (ys := xs) (zs := xs) (by first | rfl | exact (rotF_triv (by omega) (by omega) (by omega)).symm) (by first | rfl | exact (mF_triv (by omega) (by omega) (by omega)).symm)).1 (sym_pre2 hS1 hS2 hA hB hC hD h3 hR (ys := xs) (zs := xs) (by first | rfl | exact (rotF_triv (by omega) (by omega) (by omega)).symm) (by first | rfl | exact (mF_triv (by omega) (by omega) (by omega)).symm)).2⟩), trivial⟩ ?_
     intro a56 w56 τ56 st56 f56
     obtain ⟨e0, -⟩ := f56.ks [(0, _)] ⟨e0, trivial⟩
     replace r0 : ownR RowE 36 (mF ltR xs mid e b) (τ56 0) v w56 := f56.ro 5 e0 rfl
     clear f56
     refine end0 (fn := Try.f43) rfl st56.defers ?_
     exact ⟨rfl, (sym_final ltR_swo hS1 hS2 hA hB hC hD h3 hC1 hC2 hR (ys := xs) (zs := xs) (us := mF ltR xs mid e b) (by first | rfl | exact (rotF_triv (by omega) (by omega) (by omega)).symm) (by first | rfl | exact (mF_triv (by omega) (by omega) (by omega)).symm) (by first | rfl | exact (mF_triv (by omega) (by omega) (by omega)).symm)) ▸ r0.1, st56.extIn⟩
   try simp only [Bool.and_eq_false_iff, decide_eq_false_iff_not, Int.not_lt] at hc18
   refine wp_skip ?_
   refine end0 (fn := Try.f43) rfl st55.defers ?_
   exact ⟨rfl, (sym_final ltR_swo hS1 hS2 hA hB hC hD h3 hC1 hC2 hR (ys := xs) (zs := xs) (us := xs) (by first | rfl | exact (rotF_triv (by omega) (by omega) (by omega)).symm) (by first | rfl | exact (mF_triv (by omega) (by omega) (by omega)).symm) (by first | rfl | exact (mF_triv (by omega) (by omega) (by omega)).symm)) ▸ r0.1, st55.extIn⟩
 try simp only [decide_eq_false_iff_not, Int.not_lt] at hc9
 refine wp_seq ?_
 refine region_St (bf := [0, 1]) (sp := [det _ 145 _, det _ 20 _]) [io r0] mixed st32 (by kernel_rfl) ⟨r0, trivial⟩
  ⟨Ob.d fun c => r_move rfl (c.p e1),
  Ob.d fun c => r_assign rfl (c.n 0 rfl), trivial⟩ ?_
 intro a57 w57 τ57 st57 f57
 obtain ⟨e0, e1, e2, e3, e4, e18, e19, e21, -⟩ := f57.ks [(0, _), (1, _), (2, _), (3, _), (4, _), (18, _), (19, _), (21, _)] ⟨e0, e1, e2, e3, e4, e18, e19, e21, trivial⟩
 have e20 : get a57 20 = (.int .i64 ((a : Int))) := f57.v 1 rfl
 replace r0 := f57.io 0 rfl
 clear f57
 show Code.wp _ _ _ a57 w57
 refine region_St (bf := [0, 1]) (sp := [det _ 146 _, det _ 21 _]) [io r0] mixed st57 (by kernel_rfl) ⟨r0, trivial⟩
  ⟨Ob.d fun c => r_move rfl (c.p e2),
  Ob.d fun c => r_assign rfl (c.n 0 rfl), trivial⟩ ?_
 intro a58 w58 τ58 st58 f58
 obtain ⟨e0, e1, e2, e3, e4, e18, e19, e20, -⟩ := f58.ks [(0, _), (1, _), (2, _), (3, _), (4, _), (18, _), (19, _), (20, _)] ⟨e0, e1, e2, e3, e4, e18, e19, e20, trivial⟩
 have e21 : get a58 21 = (.int .i64 ((m : Int))) := f58.v 1 rfl
 replace r0 := f58.io 0 rfl
 clear f58
 show Code.wp _ _ _ a58 w58
 refine wp_seq ?_
 refine region_St (bf := [0, 1, 3]) (sp := [det _ 147 _, det _ 148 _, det _ 22 _]) [io r0] mixed st58 (by kernel_rfl) ⟨r0, trivial⟩
  ⟨Ob.d fun c => r_move rfl (c.p e19),
  Ob.d fun c => r_sub rfl (c.n 0 rfl) rfl (by omega),
  Ob.d fun c => r_assign rfl (c.n 1 rfl), trivial⟩ ?_
 intro a59 w59 τ59 st59 f59
 obtain ⟨e0, e1, e2, e3, e4, e18, e19, e20, e21, -⟩ := f59.ks [(0, _), (1, _), (2, _), (3, _), (4, _), (18, _), (19, _), (20, _), (21, _)] ⟨e0, e1, e2, e3, e4, e18, e19, e20, e21, trivial⟩
 have e22 : get a59 22 = (.int .i64 ((mid : Int) + (m : Int) - 1)) := f59.v 2 rfl
 replace r0 := f59.io 0 rfl
 clear f59
 show Code.wp _ _ _ a59 w59
 refine wp_seq ?_
 refine wp_block ?_
 refine wp_loop (fun a_ w_ => ∃ (s r : Nat) (τ : Nat → Foot), (a ≤ s) ∧
      (s ≤ r) ∧
      (r ≤ m) ∧
      (s = a ∨ ltR (nth xs ((mid : Int) + (m : Int) - (s : Int))) (nth xs ((s : Int) - 1)) = false) ∧
      (r = m ∨ ltR (nth xs ((mid : Int) + (m : Int) - 1 - (r : Int))) (nth xs (r : Int)) = true) ∧
      St (fun k => v.ownBlock = some k ∨ w.heap.size ≤ k) w 220 a_ w_ τ ∧
      get a_ 20 = (.int .i64 ((s : Int))) ∧
      get a_ 21 = (.int .i64 ((r : Int))) ∧
      get a_ 0 = v ∧
      get a_ 1 = (.int .i64 ((a : Int))) ∧
      get a_ 2 = (.int .i64 ((m : Int))) ∧
      get a_ 3 = (.int .i64 ((b : Int))) ∧
      get a_ 4 = (.func (.func 28) #[] #[]) ∧
      get a_ 18 = (.int .i64 ((mid : Int))) ∧
      get a_ 19 = (.int .i64 ((mid : Int) + (m : Int))) ∧
      get a_ 22 = (.int .i64 ((mid : Int) + (m : Int) - 1)) ∧
      ownR RowE 36 (xs) (τ 0) v w_) (fun a_ _ => (intOf (get a_ 21)).toNat - (intOf (get a_ 20)).toNat) ?_ ?_
 · refine ⟨a, m, τ59, ?_, ?_, ?_, ?_, ?_, st59, (e20.trans (int_eq (by omega))), (e21.trans (int_eq (by omega))), e0, e1, e2, e3, e4, e18, e19, e22, r0⟩
   · omega
   · omega
   · omega
   · left; omega
   · left; omega
 intro a60 w60 hI
 obtain ⟨s, r, τ60, q0, q1, q2, q3, q4, st60, e20, e21, e0, e1, e2, e3, e4, e18, e19, e22, r0⟩ := hI
 have m20 := e20
 have m21 := e21
 refine wp_seq ?_
 refine wp_seq ?_
 refine region_St (bf := [0, 0, 3]) (sp := [det _ 149 _, det _ 150 _, det _ 151 _]) [io r0] mixed st60 (by kernel_rfl) ⟨r0, trivial⟩
  ⟨Ob.d fun c => r_move rfl (c.p e20),
  Ob.d fun c => r_move rfl (c.p e21),
  Ob.d fun c => r_lss rfl (c.n 0 rfl) (c.n 1 rfl), trivial⟩ ?_
 intro a61 w61 τ61 st61 f61
 obtain ⟨e0, e1, e2, e3, e4, e18, e19, e20, e21, e22, -⟩ := f61.ks [(0, _), (1, _), (2, _), (3, _), (4, _), (18, _), (19, _), (20, _), (21, _), (22, _)] ⟨e0, e1, e2, e3, e4, e18, e19, e20, e21, e22, trivial⟩
 have e151 : get a61 151 = (.bool (decide ((s : Int) < (r : Int)))) := f61.v 2 rfl
 replace r0 := f61.io 0 rfl
 clear f61
 show Code.wp _ _ _ a61 w61
 refine wp_cond_split (t := decide ((s : Int) < (r : Int))) e151 (fun hc19 => ?_) (fun hc19 => ?_)
 · try simp only [decide_eq_true_eq] at hc19
   refine wp_skip ?_
   show Code.wp _ _ _ a61 w61
   refine wp_block ?_
   refine wp_seq ?_
   refine region_St (bf := [0, 0, 3, 7, 15, 31, 63]) (sp := [det _ 152 _, det _ 153 _, det _ 154 _, det _ 155 _, det _ 156 _, det _ 157 _, det _ 23 _]) [io r0] mixed st61 (by kernel_rfl) ⟨r0, trivial⟩
    ⟨Ob.d fun c => r_move rfl (c.p e20),
    Ob.d fun c => r_move rfl (c.p e21),
    Ob.d fun c => r_add rfl (c.n 0 rfl) (c.n 1 rfl) (by omega),
    Ob.d fun c => r_convIn rfl Try.underlying3 Try.underlying49 (c.n 2 rfl) (by omega) (by omega) (by decide),
    Ob.d fun c => r_shr1 rfl (c.n 3 rfl) rfl,
    Ob.d fun c => r_convIn rfl Try.underlying49 Try.underlying3 (c.n 4 rfl) (by omega) (by omega) (by decide),
    Ob.d fun c => r_assign rfl (c.n 5 rfl), trivial⟩ ?_
   intro a62 w62 τ62 st62 f62
   obtain ⟨e0, e1, e2, e3, e4, e18, e19, e20, e21, e22, e151, -⟩ := f62.ks [(0, _), (1, _), (2, _), (3, _), (4, _), (18, _), (19, _), (20, _), (21, _), (22, _), (151, _)] ⟨e0, e1, e2, e3, e4, e18, e19, e20, e21, e22, e151, trivial⟩
   have e23 : get a62 23 = (.int .i64 (((s : Int) + (r : Int)) / 2)) := f62.v 6 rfl
   replace r0 := f62.io 0 rfl
   clear f62
   obtain ⟨cc, hcc⟩ : ∃ x_ : Nat, ((s : Int) + (r : Int)) / 2 = (x_ : Int) := ⟨(s + r) / 2, by omega⟩
   replace e23 := e23.trans (int_eq hcc)
   show Code.wp _ _ _ a62 w62
   refine wp_seq ?_
   refine region_St (bf := [0, 0, 0, 0, 12, 30, 62, 0, 0, 384, 896, 2047, 4095, 8191]) (sp := [det _ 158 _, det _ 159 _, det _ 160 _, det _ 161 _, det _ 162 _, det _ 163 _, det _ 164 _, det _ 165 _, det _ 166 _, det _ 167 _, det _ 168 _, det _ 169 _, det _ 170 _, det _ 171 _]) [io r0] mixed st62 (by kernel_rfl) ⟨r0, trivial⟩
    ⟨Ob.d fun c => r_move rfl (c.p e4),
    Ob.d fun c => r_move rfl (c.p e0),
    Ob.d fun c => r_move rfl (c.p e22),
    Ob.d fun c => r_move rfl (c.p e23),
    Ob.d fun c => r_sub rfl (c.n 2 rfl) (c.n 3 rfl) (by omega),
    Ob.d fun c => r_indexAddr rfl Try.underlying22 Try.sizeOf36 (c.n 1 rfl) r0.isSl (c.n 4 rfl) (by omega) (by omega),
    Ob.d fun c => r_loadN (vs := [(.string ((nth xs ((mid : Int) + (m : Int) - 1 - (cc : Int))).1)), (.string ((nth xs ((mid : Int) + (m : Int) - 1 - (cc : Int))).2))]) rfl Try.isAgg36 Try.sizeOf36 (c.n 5 rfl) rfl (fun _ _ hj => ((c.io 0 rfl).1.sl).elem (nth_some (i := (mid : Int) + (m : Int) - 1 - (cc : Int)) (by omega) (by omega)) hj),
    Ob.d fun c => r_move rfl (c.p e0),
    Ob.d fun c => r_move rfl (c.p e23),
    Ob.d fun c => r_indexAddr rfl Try.underlying22 Try.sizeOf36 (c.n 7 rfl) r0.isSl (c.n 8 rfl) (by omega) (by omega),
    Ob.d fun c => r_loadN (vs := [(.string ((nth xs ((cc : Int))).1)), (.string ((nth xs ((cc : Int))).2))]) rfl Try.isAgg36 Try.sizeOf36 (c.n 9 rfl) rfl (fun _ _ hj => ((c.io 0 rfl).1.sl).elem (nth_some (i := (cc : Int)) (by omega) (by omega)) hj),
    Ob.c fun c => ⟨_, _, (e_call2 rfl (c.n 0 rfl) Try.call28 (c.n 6 rfl) (c.n 10 rfl)), cmpR_c (nth xs ((mid : Int) + (m : Int) - 1 - (cc : Int))) (nth xs ((cc : Int))) _⟩,
    Ob.d fun c => r_lss rfl (c.n 11 rfl) rfl,
    Ob.d fun c => r_not rfl (c.n 12 rfl), trivial⟩ ?_
   intro a63 w63 τ63 st63 f63
   obtain ⟨e0, e1, e2, e3, e4, e18, e19, e20, e21, e22, e23, e151, -⟩ := f63.ks [(0, _), (1, _), (2, _), (3, _), (4, _), (18, _), (19, _), (20, _), (21, _), (22, _), (23, _), (151, _)] ⟨e0, e1, e2, e3, e4, e18, e19, e20, e21, e22, e23, e151, trivial⟩
   have e171 : get a63 171 = (.bool (!(decide (cmpR (nth xs ((mid : Int) + (m : Int) - 1 - (cc : Int))) (nth xs ((cc : Int))) < 0)))) := f63.v 13 rfl
   replace r0 := f63.io 0 rfl
   clear f63
   show Code.wp _ _ _ a63 w63
   refine wp_cond_split (t := !(decide (cmpR (nth xs ((mid : Int) + (m : Int) - 1 - (cc : Int))) (nth xs ((cc : Int))) < 0))) e171 (fun hc20 => ?_) (fun hc20 => ?_)
   · try simp only [Bool.not_eq_true', Bool.not_eq_false', decide_eq_true_eq, decide_eq_false_iff_not, Int.not_lt] at hc20
     refine region_St (bf := [0, 1, 3]) (sp := [det _ 172 _, det _ 173 _, det _ 20 _]) [io r0] mixed st63 (by kernel_rfl) ⟨r0, trivial⟩
      ⟨Ob.d fun c => r_move rfl (c.p e23),
      Ob.d fun c => r_add rfl (c.n 0 rfl) rfl (by omega),
      Ob.d fun c => r_assign rfl (c.n 1 rfl), trivial⟩ ?_
     intro a64 w64 τ64 st64 f64
     obtain ⟨e0, e1, e2, e3, e4, e18, e19, e21, e22, e23, e151, e171, -⟩ := f64.ks [(0, _), (1, _), (2, _), (3, _), (4, _), (18, _), (19, _), (21, _), (22, _), (23, _), (151, _), (171, _)] ⟨e0, e1, e2, e3, e4, e18, e19, e21, e22, e23, e151, e171, trivial⟩
     have e20 : get a64 20 = (.int .i64 ((cc : Int) + 1)) := f64.v 2 rfl
     replace r0 := f64.io 0 rfl
     clear f64
     show _
     refine ⟨⟨cc + 1, r, τ64, ?_, ?_, ?_, ?_, ?_, st64, (e20.trans (int_eq (by omega))), (e21.trans (int_eq (by omega))), e0, e1, e2, e3, e4, e18, e19, e22, r0⟩, ?_⟩
     · omega
     · omega
     · omega
     · first | exact q3 | (right; rw [show (mid : Int) + (m : Int) - (((cc + 1 : Nat) : Int)) = (mid : Int) + (m : Int) - 1 - (cc : Int) by omega, show (((cc + 1 : Nat) : Int) - 1) = (cc : Int) by omega]; exact (by simp only [ltR, decide_eq_false_iff_not, Int.not_lt]; assumption))
     · first | exact q4 | (right; exact (by simp only [ltR, decide_eq_true_eq]; assumption))
     · simp only [m20, m21, e20, e21, intOf]; omega
   try simp only [Bool.not_eq_true', Bool.not_eq_false', decide_eq_true_eq, decide_eq_false_iff_not, Int.not_lt] at hc20
   refine region_St (bf := [0, 1]) (sp := [det _ 174 _, det _ 21 _]) [io r0] mixed st63 (by kernel_rfl) ⟨r0, trivial⟩
    ⟨Ob.d fun c => r_move rfl (c.p e23),
    Ob.d fun c => r_assign rfl (c.n 0 rfl), trivial⟩ ?_
   intro a65 w65 τ65 st65 f65
   obtain ⟨e0, e1, e2, e3, e4, e18, e19, e20, e22, e23, e151, e171, -⟩ := f65.ks [(0, _), (1, _), (2, _), (3, _), (4, _), (18, _), (19, _), (20, _), (22, _), (23, _), (151, _), (171, _)] ⟨e0, e1, e2, e3, e4, e18, e19, e20, e22, e23, e151, e171, trivial⟩
   have e21 : get a65 21 = (.int .i64 ((cc : Int))) := f65.v 1 rfl
   replace r0 := f65.io 0 rfl
   clear f65
   show _
   refine ⟨⟨s, cc, τ65, ?_, ?_, ?_, ?_, ?_, st65, (e20.trans (int_eq (by omega))), (e21.trans (int_eq (by omega))), e0, e1, e2, e3, e4, e18, e19, e22, r0⟩, ?_⟩
   · omega
   · omega
   · omega
   · first | exact q3 | (right; rw [show (mid : Int) + (m : Int) - (((cc + 1 : Nat) : Int)) = (mid : Int) + (m : Int) - 1 - (cc : Int) by omega, show (((cc + 1 : Nat) : Int) - 1) = (cc : Int) by omega]; exact (by simp only [ltR, decide_eq_false_iff_not, Int.not_lt]; assumption))
   · first | exact q4 | (right; exact (by simp only [ltR, decide_eq_true_eq]; assumption))
   · simp only [m20, m21, e20, e21, intOf]; omega
 try simp only [decide_eq_false_iff_not, Int.not_lt] at hc19
 refine wp_exit ?_
 repeat (with_reducible refine then_exit ?_)
 refine exit_here ?_
 show Code.wp _ _ _ a61 w61
 refine wp_seq ?_
 refine region_St (bf := [0, 0, 3, 7]) (sp := [det _ 175 _, det _ 176 _, det _ 177 _, det _ 24 _]) [io r0] mixed st61 (by kernel_rfl) ⟨r0, trivial⟩
  ⟨Ob.d fun c => r_move rfl (c.p e19),
  Ob.d fun c => r_move rfl (c.p e20),
  Ob.d fun c => r_sub rfl (c.n 0 rfl) (c.n 1 rfl) (by omega),
  Ob.d fun c => r_assign rfl (c.n 2 rfl), trivial⟩ ?_
 intro a66 w66 τ66 st66 f66
 obtain ⟨e0, e1, e2, e3, e4, e18, e20, -⟩ := f66.ks [(0, _), (1, _), (2, _), (3, _), (4, _), (18, _), (20, _)] ⟨e0, e1, e2, e3, e4, e18, e20, trivial⟩
 have e24 : get a66 24 = (.int .i64 ((mid : Int) + (m : Int) - (s : Int))) := f66.v 3 rfl
 replace r0 := f66.io 0 rfl
 clear f66
 obtain rfl : s = r := by omega
 obtain ⟨e, he⟩ : ∃ x_ : Nat, (mid : Int) + (m : Int) - (s : Int) = (x_ : Int) := ⟨mid + m - s, by omega⟩
 replace e24 := e24.trans (int_eq he)
 have hA : a ≤ s := by omega
 have hB : s ≤ m := by omega
 have hC : m ≤ e := by omega
 have hD : e ≤ b := by omega
 have hR : s + e = mid + m := by omega
 have hC1 : s = a ∨ e = b ∨ ltR (nth xs (e : Int)) (nth xs ((s : Int) - 1)) = false := by
   rcases q3 with h_ | h_
   · first | (left; omega) | (right; left; omega)
   · right; right; rw [← he]; exact h_
 have hC2 : s = m ∨ e = m ∨ ltR (nth xs ((e : Int) - 1)) (nth xs (s : Int)) = true := by
   rcases q4 with h_ | h_
   · first | (left; omega) | (right; left; omega)
   · right; right; rw [show (e : Int) - 1 = (mid : Int) + (m : Int) - 1 - (s : Int) by omega]; exact h_
 show Code.wp _ _ _ a66 w66
 refine wp_seq ?_
 refine wp_seq ?_
 refine region_St (bf := [0, 0, 3, 7, 15, 15, 63, 127]) (sp := [det _ 178 _, det _ 179 _, det _ 180 _, det _ 181 _, gdet _ 182 _ _, gdet _ 183 _ _, gdet _ 184 _ _, det _ 185 _]) [io r0] mixed st66 (by kernel_rfl) ⟨r0, trivial⟩
  ⟨Ob.d fun c => r_move rfl (c.p e20),
  Ob.d fun c => r_move rfl (c.p e2),
  Ob.d fun c => r_lss rfl (c.n 0 rfl) (c.n 1 rfl),
  Ob.d fun c => r_move rfl (c.n 2 rfl),
  Ob.g 3 true rfl fun c hpc => r_move rfl (c.p e2),
  Ob.g 3 true rfl fun c hpc => r_move rfl (c.p e24),
  Ob.g 3 true rfl fun c hpc => r_lss rfl (c.m 4 rfl hpc) (c.m 5 rfl hpc),
  Ob.d fun c => r_and rfl (c.n 3 rfl) (fun h => c.m 6 rfl h), trivial⟩ ?_
 intro a67 w67 τ67 st67 f67
 obtain ⟨e0, e1, e2, e3, e4, e18, e20, e24, -⟩ := f67.ks [(0, _), (1, _), (2, _), (3, _), (4, _), (18, _), (20, _), (24, _)] ⟨e0, e1, e2, e3, e4, e18, e20, e24, trivial⟩
 have e185 : get a67 185 = (.bool ((decide ((s : Int) < (m : Int))) && (decide ((m : Int) < (e : Int))))) := f67.v 7 rfl
 replace r0 := f67.io 0 rfl
 clear f67
 show Code.wp _ _ _ a67 w67
 refine wp_cond_split (t := (decide ((s : Int) < (m : Int))) && (decide ((m : Int) < (e : Int)))) e185 (fun hc21 => ?_) (fun hc21 => ?_)
 · try simp only [Bool.and_eq_true, decide_eq_true_eq] at hc21
   refine region_St (bf := [0, 0, 0, 0, 0, 31]) (sp := [det _ 186 _, det _ 187 _, det _ 188 _, det _ 189 _, det _ 190 _, own _ _ _ 0 0 _]) [io r0] mixed st67 (by kernel_rfl) ⟨r0, trivial⟩
    ⟨Ob.d fun c => r_move rfl (c.p e0),
    Ob.d fun c => r_move rfl (c.p e20),
    Ob.d fun c => r_move rfl (c.p e2),
    Ob.d fun c => r_move rfl (c.p e24),
    Ob.d fun c => r_move rfl (c.p e4),
    Ob.callIn rfl rfl rfl (by decide) (fun _ a_ _ _ c => ⟨_, _, (e_call5 rfl rfl Try.call44 (c.n 0 rfl) (c.n 1 rfl) (c.n 2 rfl) (c.n 3 rfl) (c.n 4 rfl)), c.p e0, c.io 0 rfl, fun ho_ => rowRot_c v xs (s : Int) (m : Int) (e : Int) _ ho_ (by omega) (by omega) (by omega) (by omega)⟩), trivial⟩ ?_
   intro a68 w68 τ68 st68 f68
   obtain ⟨e0, e1, e3, e4, e18, e20, e24, -⟩ := f68.ks [(0, _), (1, _), (3, _), (4, _), (18, _), (20, _), (24, _)] ⟨e0, e1, e3, e4, e18, e20, e24, trivial⟩
   replace r0 : ownR RowE 36 (rotF xs (s : Int).toNat (m : Int).toNat (e : Int).toNat) (τ68 0) v w68 := f68.ro 5 e0 rfl
   clear f68
   show Code.wp _ _ _ a68 w68
   refine wp_seq ?_
   refine wp_seq ?_
   refine region_St (bf := [0, 0, 3, 7, 15, 15, 63, 127]) (sp := [det _ 192 _, det _ 193 _, det _ 194 _, det _ 195 _, gdet _ 196 _ _, gdet _ 197 _ _, gdet _ 198 _ _, det _ 199 _]) [io r0] mixed st68 (by kernel_rfl) ⟨r0, trivial⟩
    ⟨Ob.d fun c => r_move rfl (c.p e1),
    Ob.d fun c => r_move rfl (c.p e20),
    Ob.d fun c => r_lss rfl (c.n 0 rfl) (c.n 1 rfl),
    Ob.d fun c => r_move rfl (c.n 2 rfl),
    Ob.g 3 true rfl fun c hpc => r_move rfl (c.p e20),
    Ob.g 3 true rfl fun c hpc => r_move rfl (c.p e18),
    Ob.g 3 true rfl fun c hpc => r_lss rfl (c.m 4 rfl hpc) (c.m 5 rfl hpc),
    Ob.d fun c => r_and rfl (c.n 3 rfl) (fun h => c.m 6 rfl h), trivial⟩ ?_
   intro a69 w69 τ69 st69 f69
   obtain ⟨e0, e1, e3, e4, e18, e20, e24, -⟩ := f69.ks [(0, _), (1, _), (3, _), (4, _), (18, _), (20, _), (24, _)] ⟨e0, e1, e3, e4, e18, e20, e24, trivial⟩
   have e199 : get a69 199 = (.bool ((decide ((a : Int) < (s : Int))) && (decide ((s : Int) < (mid : Int))))) := f69.v 7 rfl
   replace r0 := f69.io 0 rfl
   clear f69
   show Code.wp _ _ _ a69 w69
   refine wp_cond_split (t := (decide ((a : Int) < (s : Int))) && (decide ((s : Int) < (mid : Int)))) e199 (fun hc22 => ?_) (fun hc22 => ?_)
   · try simp only [Bool.and_eq_true, decide_eq_true_eq] at hc22
     refine region_St (bf := [0, 0, 0, 0, 0, 31]) (sp := [det _ 200 _, det _ 201 _, det _ 202 _, det _ 203 _, det _ 204 _, own _ _ _ 0 0 _]) [io r0] mixed st69 (by kernel_rfl) ⟨r0, trivial⟩
      ⟨Ob.d fun c => r_move rfl (c.p e0),
      Ob.d fun c => r_move rfl (c.p e1),
      Ob.d fun c => r_move rfl (c.p e20),
      Ob.d fun c => r_move rfl (c.p e18),
      Ob.d fun c => r_move rfl (c.p e4),
      Ob.callIn rfl rfl rfl (by decide) (fun _ a_ _ _ c => ⟨_, _, (e_call5 rfl rfl Try.call43 (c.n 0 rfl) (c.n 1 rfl) (c.n 2 rfl) (c.n 3 rfl) (c.n 4 rfl)), c.p e0, c.io 0 rfl, fun ho_ => ih v (rotF xs (s : Int).toNat (m : Int).toNat (e : Int).toNat) a s mid _ ho_ (by omega) (by omega) (by (try rw [mF_len (by omega) (by omega) (by (try rw [rotF_len (by omega) (by omega) (by omega)]); omega)]); (try rw [rotF_len (by omega) (by omega) (by omega)]); omega) (by (try rw [mF_len (by omega) (by omega) (by (try rw [rotF_len (by omega) (by omega) (by omega)]); omega)]); (try rw [rotF_len (by omega) (by omega) (by omega)]); omega) (by omega) (sym_pre1 hS1 hS2 hA hB hC hD h3 hR (ys := rotF xs (s : Int).toNat (m : Int).toNat (e : Int).toNat) (by first | rfl | exact (rotF_triv (by omega) (by omega) (by omega)).symm)).1 (sym_pre1 hS1 hS2 hA hB hC hD h3 hR (ys := rotF xs (s : Int).toNat (m : Int).toNat (e : Int).toNat) (by first | rfl | exact (rotF_triv (by omega) (by omega) (by omega)).symm)).2⟩), trivial⟩ ?_
     intro a70 w70 τ70 st70 f70
     obtain ⟨e0, e3, e4, e18, e24, -⟩ := f70.ks [(0, _), (3, _), (4, _), (18, _), (24, _)] ⟨e0, e3, e4, e18, e24, trivial⟩
     replace r0 : ownR RowE 36 (mF ltR (rotF xs (s : Int).toNat (m : Int).toNat (e : Int).toNat) a s mid) (τ70 0) v w70 := f70.ro 5 e0 rfl
     clear f70
     show Code.wp _ _ _ a70 w70
     refine wp_seq ?_
     refine region_St (bf := [0, 0, 3, 7, 15, 15, 63, 127]) (sp := [det _ 206 _, det _ 207 _, det _ 208 _, det _ 209 _, gdet _ 210 _ _, gdet _ 211 _ _, gdet _ 212 _ _, det _ 213 _]) [io r0] mixed st70 (by kernel_rfl) ⟨r0, trivial⟩
      ⟨Ob.d fun c => r_move rfl (c.p e18),
      Ob.d fun c => r_move rfl (c.p e24),
      Ob.d fun c => r_lss rfl (c.n 0 rfl) (c.n 1 rfl),
      Ob.d fun c => r_move rfl (c.n 2 rfl),
      Ob.g 3 true rfl fun c hpc => r_move rfl (c.p e24),
      Ob.g 3 true rfl fun c hpc => r_move rfl (c.p e3),
      Ob.g 3 true rfl fun c hpc => r_lss rfl (c.m 4 rfl hpc) (c.m 5 rfl hpc),
      Ob.d fun c => r_and rfl (c.n 3 rfl) (fun h => c.m 6 rfl h), trivial⟩ ?_
     intro a71 w71 τ71 st71 f71
     obtain ⟨e0, e3, e4, e18, e24, -⟩ := f71.ks [(0, _), (3, _), (4, _), (18, _), (24, _)] ⟨e0, e3, e4, e18, e24, trivial⟩
     have e213 : get a71 213 = (.bool ((decide ((mid : Int) < (e : Int))) && (decide ((e : Int) < (b : Int))))) := f71.v 7 rfl
     replace r0 := f71.io 0 rfl
     clear f71
     show Code.wp _ _ _ a71 w71
     refine wp_cond_split (t := (decide ((mid : Int) < (e : Int))) && (decide ((e : Int) < (b : Int)))) e213 (fun hc23 => ?_) (fun hc23 => ?_)
     · try simp only [Bool.and_eq_true, decide_eq_true_eq] at hc23
       refine region_St (bf := [0, 0, 0, 0, 0, 31]) (sp := [det _ 214 _, det _ 215 _, det _ 216 _, det _ 217 _, det _ 218 _, own _ _ _ 0 0 _]) [io r0] mixed st71 (by kernel_rfl) ⟨r0, trivial⟩
        ⟨Ob.d fun c => r_move rfl (c.p e0),
        Ob.d fun c => r_move rfl (c.p e18),
        Ob.d fun c => r_move rfl (c.p e24),
        Ob.d fun c => r_move rfl (c.p e3),
        Ob.d fun c => r_move rfl (c.p e4),
        Ob.callIn rfl rfl rfl (by decide) (fun _ a_ _ _ c => ⟨_, _, (e_call5 rfl rfl Try.call43 (c.n 0 rfl) (c.n 1 rfl) (c.n 2 rfl) (c.n 3 rfl) (c.n 4 rfl)), c.p e0, c.io 0 rfl, fun ho_ => ih v (mF ltR (rotF xs (s : Int).toNat (m : Int).toNat (e : Int).toNat) a s mid) mid e b _ ho_ (by omega) (by omega) (by (try rw [mF_len (by omega) (by omega) (by (try rw [rotF_len (by omega) (by omega) (by omega)]); omega)]); (try rw [rotF_len (by omega) (by omega) (by omega)]); omega) (by (try rw [mF_len (by omega) (by omega) (by (try rw [rotF_len (by omega) (by omega) (by omega)]); omega)]); (try rw [rotF_len (by omega) (by omega) (by omega)]); omega) (by omega) (sym_pre2 hS1 hS2 hA hB hC hD h3 hR (ys := rotF xs (s : Int).toNat (m : Int).toNat (e : Int).toNat) (zs := mF ltR (rotF xs (s : Int).toNat (m : Int).toNat (e : Int).toNat) a s mid) (by first | rfl | exact (rotF_triv (by omega) (by omega) (by omega)).symm) (by first | rfl | exact (mF_triv (by omega) (by omega) (by omega)).symm)).1 (sym_pre2 hS1 hS2 hA hB hC hD h3 hR (ys := rotF xs (s : Int).toNat (m : Int).toNat (e : Int).toNat) (zs := mF ltR (rotF xs (s : Int).toNat (m : Int).toNat (e : Int).toNat) a s mid) (by first | rfl | exact (rotF_triv (by omega) (by omega) (by omega)).symm) (by first | rfl | exact (mF_triv (by omega) (by omega) (by omega)).symm)).2⟩), trivial⟩ ?_
       intro a72 w72 τ72 st72 f72
       obtain ⟨e0, -⟩ := f72.ks [(0, _)] ⟨e0, trivial⟩
       replace r0 : ownR RowE 36 (mF ltR (mF ltR (rotF xs (s : Int).toNat (m : Int).toNat (e : Int).toNat) a s mid) mid e b) (τ72 0) v w72 := f72.ro 5 e0 rfl
       clear f72
       refine end0 (fn := Try.f43) rfl st72.defers ?_
       exact ⟨rfl, (sym_final ltR_swo hS1 hS2 hA hB hC hD h3 hC1 hC2 hR (ys := rotF xs (s : Int).toNat (m : Int).toNat (e : Int).toNat) (zs := mF ltR (rotF xs (s : Int).toNat (m : Int).toNat (e : Int).toNat) a s mid) (us := mF ltR (mF ltR (rotF xs (s : Int).toNat (m : Int).toNat (e : Int).toNat) a s mid) mid e b) (by first | rfl | exact (rotF_triv (by omega) (by omega) (by omega)).symm) (by first | rfl | exact (mF_triv (by omega) (by omega) (by omega)).symm) (by first | rfl | exact (mF_triv (by omega) (by omega) (by omega)).symm)) ▸ r0.1, st72.extIn⟩
     try simp only [Bool.and_eq_false_iff, decide_eq_false_iff_not, Int.not_lt] at hc23
     refine wp_skip ?_
     refine end0 (fn := Try.f43) rfl st71.defers ?_
     exact ⟨rfl, (sym_final ltR_swo hS1 hS2 hA hB hC hD h3 hC1 hC2 hR (ys := rotF xs (s : Int).toNat (m : Int).toNat (e : Int).toNat) (zs := mF ltR (rotF xs (s : Int).toNat (m : Int).toNat (e : Int).toNat) a s mid) (us := mF ltR (rotF xs (s : Int).toNat (m : Int).toNat (e : Int).toNat) a s mid) (by first | rfl | exact (rotF_triv (by omega) (by omega) (by omega)).symm) (by first | rfl | exact (mF_triv (by omega) (by omega) (by omega)).symm) (by first | rfl | exact (mF_triv (by omega) (by omega) (by omega)).symm)) ▸ r0.1, st71.extIn⟩
   try simp only [Bool.and_eq_false_iff, decide_eq_false_iff_not, Int.not_lt] at hc22
   refine wp_skip ?_
   show Code.wp _ _ _ a69 w69
   refine wp_seq ?_
   refine region_St (bf := [0, 0, 3, 7, 15, 15, 63, 127]) (sp := [det _ 206 _, det _ 207 _, det _ 208 _, det _ 209 _, gdet _ 210 _ _, gdet _ 211 _ _, gdet _ 212 _ _, det _ 213 _]) [io r0] mixed st69 (by kernel_rfl) ⟨r0, trivial⟩
    ⟨Ob.d fun c => r_move rfl (c.p e18),
    Ob.d fun c => r_move rfl (c.p e24),
    Ob.d fun c => r_lss rfl (c.n 0 rfl) (c.n 1 rfl),
    Ob.d fun c => r_move rfl (c.n 2 rfl),
    Ob.g 3 true rfl fun c hpc => r_move rfl (c.p e24),
    Ob.g 3 true rfl fun c hpc => r_move rfl (c.p e3),
    Ob.g 3 true rfl fun c hpc => r_lss rfl (c.m 4 rfl hpc) (c.m 5 rfl hpc),
    Ob.d fun c => r_and rfl (c.n 3 rfl) (fun h => c.m 6 rfl h), trivial⟩ ?_
   intro a73 w73 τ73 st73 f73
   obtain ⟨e0, e3, e4, e18, e24, -⟩ := f73.ks [(0, _), (3, _), (4, _), (18, _), (24, _)] ⟨e0, e3, e4, e18, e24, trivial⟩
   have e213 : get a73 213 = (.bool ((decide ((mid : Int) < (e : Int))) && (decide ((e : Int) < (b : Int))))) := f73.v 7 rfl
   replace r0 := f73.io 0 rfl
   clear f73
   show Code.wp _ _ _ a73 w73
   refine wp_cond_split (t := (decide ((mid : Int) < (e : Int))) && (decide ((e : Int) < (b : Int)))) e213 (fun hc24 => ?_) (fun hc24 => ?_)
   · try simp only [Bool.and_eq_true, decide_eq_true_eq] at hc24
     refine region_St (bf := [0, 0, 0, 0, 0, 31]) (sp := [det _ 214 _, det _ 215 _, det _ 216 _, det _ 217 _, det _ 218 _, own _ _ _ 0 0 _]) [io r0] mixed st73 (by kernel_rfl) ⟨r0, trivial⟩
      ⟨Ob.d fun c => r_move rfl (c.p e0),
      Ob.d fun c => r_move rfl (c.p e18),
      Ob.d fun c => r_move rfl (c.p e24),
      Ob.d fun c => r_move rfl (c.p e3),
      Ob.d fun c => r_move rfl (c.p e4),
      Ob.callIn rfl rfl rfl (by decide) (fun _ a_ _ _ c => ⟨_, _, (e_call5 rfl rfl Try.call43 (c.n 0 rfl) (c.n 1 rfl) (c.n 2 rfl) (c.n 3 rfl) (c.n 4 rfl)), c.p e0, c.io 0 rfl, fun ho_ => ih v (rotF xs (s : Int).toNat (m : Int).toNat (e : Int).toNat) mid e b _ ho_ (by omega) (by omega) (by (try rw [mF_len (by omega) (by omega) (by (try rw [rotF_len (by omega) (by omega) (by omega)]); omega)]); (try rw [rotF_len (by omega) (by omega) (by omega)]); omega) (by (try rw [mF_len (by omega) (by omega) (by (try rw [rotF_len (by omega) (by omega) (by omega)]); omega)]); (try rw [rotF_len (by omega) (by omega) (by omega)]); omega) (by omega) (sym_pre2 hS1 hS2 hA hB hC hD h3 hR (ys := rotF xs (s : Int).toNat (m : Int).toNat (e : Int).toNat) (zs := rotF xs (s : Int).toNat (m : Int).toNat (e : Int).toNat) (by first | rfl | exact (rotF_triv (by omega) (by omega) (by omega)).symm) (by first | rfl | exact (mF_triv (by omega) (by omega) (by omega)).symm)).1 (sym_pre2 hS1 hS2 hA hB hC hD h3 hR (ys := rotF xs (s : Int).toNat (m : Int).toNat (e : Int).toNat) (zs := rotF xs (s : Int).toNat (m : Int).toNat (e : Int).toNat) (by first | rfl | exact (rotF_triv (by omega) (by omega) (by omega)).symm) (by first | rfl | exact (mF_triv (by omega) (by omega) (by omega)).symm)).2⟩), trivial⟩ ?_
     intro a74 w74 τ74 st74 f74
     obtain ⟨e0, -⟩ := f74.ks [(0, _)] ⟨e0, trivial⟩
     replace r0 : ownR RowE 36 (mF ltR (rotF xs (s : Int).toNat (m : Int).toNat (e : Int).toNat) mid e b) (τ74 0) v w74 := f74.ro 5 e0 rfl
     clear f74
     refine end0 (fn := Try.f43) rfl st74.defers ?_
     exact ⟨rfl, (sym_final ltR_swo hS1 hS2 hA hB hC hD h3 hC1 hC2 hR (ys := rotF xs (s : Int).toNat (m : Int).toNat (e : Int).toNat) (zs := rotF xs (s : Int).toNat (m : Int).toNat (e : Int).toNat) (us := mF ltR (rotF xs (s : Int).toNat (m : Int).toNat (e : Int).toNat) mid e b) (by first | rfl | exact (rotF_triv (by omega) (by omega) (by omega)).symm) (by first | rfl | exact (mF_triv (by omega) (by omega) (by omega)).symm) (by first | rfl | exact (mF_triv (by omega) (by omega) (by omega)).symm)) ▸ r0.1, st74.extIn⟩
   try simp only [Bool.and_eq_false_iff, decide_eq_false_iff_not, Int.not_lt] at hc24
   refine wp_skip ?_
   refine end0 (fn := Try.f43) rfl st73.defers ?_
   exact ⟨rfl, (sym_final ltR_swo hS1 hS2 hA hB hC hD h3 hC1 hC2 hR (ys := rotF xs (s : Int).toNat (m : Int).toNat (e : Int).toNat) (zs := rotF xs (s : Int).toNat (m : Int).toNat (e : Int).toNat) (us := rotF xs (s : Int).toNat (m : Int).toNat (e : Int).toNat) (by first | rfl | exact (rotF_triv (by omega) (by omega) (by omega)).symm) (by first | rfl | exact (mF_triv (by omega) (by omega) (by omega)).symm) (by first | rfl | exact (mF_triv (by omega) (by omega) (by omega)).symm)) ▸ r0.1, st73.extIn⟩
 try simp only [Bool.and_eq_false_iff, decide_eq_false_iff_not, Int.not_lt] at hc21
 refine wp_skip ?_
 show Code.wp _ _ _ a67 w67
 refine wp_seq ?_
 refine wp_seq ?_
 refine region_St (bf := [0, 0, 3, 7, 15, 15, 63, 127]) (sp := [det _ 192 _, det _ 193 _, det _ 194 _, det _ 195 _, gdet _ 196 _ _, gdet _ 197 _ _, gdet _ 198 _ _, det _ 199 _]) [io r0] mixed st67 (by kernel_rfl) ⟨r0, trivial⟩
  ⟨Ob.d fun c => r_move rfl (c.p e1),
  Ob.d fun c => r_move rfl (c.p e20),
  Ob.d fun c => r_lss rfl (c.n 0 rfl) (c.n 1 rfl),
  Ob.d fun c => r_move rfl (c.n 2 rfl),
  Ob.g 3 true rfl fun c hpc => r_move rfl (c.p e20),
  Ob.g 3 true rfl fun c hpc => r_move rfl (c.p e18),
  Ob.g 3 true rfl fun c hpc => r_lss rfl (c.m 4 rfl hpc) (c.m 5 rfl hpc),
  Ob.d fun c => r_and rfl (c.n 3 rfl) (fun h => c.m 6 rfl h), trivial⟩ ?_
 intro a75 w75 τ75 st75 f75
 obtain ⟨e0, e1, e3, e4, e18, e20, e24, -⟩ := f75.ks [(0, _), (1, _), (3, _), (4, _), (18, _), (20, _), (24, _)] ⟨e0, e1, e3, e4, e18, e20, e24, trivial⟩
 have e199 : get a75 199 = (.bool ((decide ((a : Int) < (s : Int))) && (decide ((s : Int) < (mid : Int))))) := f75.v 7 rfl
 replace r0 := f75.io 0 rfl
 clear f75
 show Code.wp _ _ _ a75 w75
 refine wp_cond_split (t := (decide ((a : Int) < (s : Int))) && (decide ((s : Int) < (mid : Int)))) e199 (fun hc25 => ?_) (fun hc25 => ?_)
 · try simp only [Bool.and_eq_true, decide_eq_true_eq] at hc25
   refine region_St (bf := [0, 0, 0, 0, 0, 31]) (sp := [det _ 200 _, det _ 201 _, det _ 202 _, det _ 203 _, det _ 204 _, own _ _ _ 0 0 _]) [io r0] mixed st75 (by kernel_rfl) ⟨r0, trivial⟩
    ⟨Ob.d fun c => r_move rfl (c.p e0),
    Ob.d fun c => r_move rfl (c.p e1),
    Ob.d fun c => r_move rfl (c.p e20),
    Ob.d fun c => r_move rfl (c.p e18),
    Ob.d fun c => r_move rfl (c.p e4),
    Ob.callIn rfl rfl rfl (by decide) (fun _ a_ _ _ c => ⟨_, _, (e_call5 rfl rfl Try.call43 (c.n 0 rfl) (c.n 1 rfl) (c.n 2 rfl) (c.n 3 rfl) (c.n 4 rfl)), c.p e0, c.io 0 rfl, fun ho_ => ih v xs a s mid _ ho_ (by omega) (by omega) (by (try rw [mF_len (by omega) (by omega) (by (try rw [rotF_len (by omega) (by omega) (by omega)]); omega)]); (try rw [rotF_len (by omega) (by omega) (by omega)]); omega) (by (try rw [mF_len (by omega) (by omega) (by (try rw [rotF_len (by omega) (by omega) (by omega)]); omega)]); (try rw [rotF_len (by omega) (by omega) (by omega)]); omega) (by omega) (sym_pre1 hS1 hS2 hA hB hC hD h3 hR (ys := xs) (by first | rfl | exact (rotF_triv (by omega) (by omega) (by omega)).symm)).1 (sym_pre1 hS1 hS2 hA hB hC hD h3 hR (ys := xs) (by first | rfl | exact (rotF_triv (by omega) (by omega) (by omega)).symm)).2⟩), trivial⟩ ?_
   intro a76 w76 τ76 st76 f76
   obtain ⟨e0, e3, e4, e18, e24, -⟩ := f76.ks [(0, _), (3, _), (4, _), (18, _), (24, _)] ⟨e0, e3, e4, e18, e24, trivial⟩
   replace r0 : ownR RowE 36 (mF ltR xs a s mid) (τ76 0) v w76 := f76.ro 5 e0 rfl
   clear f76
   show Code.wp _ _ _ a76 w76
   refine wp_seq ?_
   refine region_St (bf := [0, 0, 3, 7, 15, 15, 63, 127]) (sp := [det _ 206 _, det _ 207 _, det _ 208 _, det _ 209 _, gdet _ 210 _ _, gdet _ 211 _ _, gdet _ 212 _ _, det _ 213 _]) [io r0] mixed st76 (by kernel_rfl) ⟨r0, trivial⟩
    ⟨Ob.d fun c => r_move rfl (c.p e18),
    Ob.d fun c => r_move rfl (c.p e24),
    Ob.d fun c => r_lss rfl (c.n 0 rfl) (c.n 1 rfl),
    Ob.d fun c => r_move rfl (c.n 2 rfl),
    Ob.g 3 true rfl fun c hpc => r_move rfl (c.p e24),
    Ob.g 3 true rfl fun c hpc => r_move rfl (c.p e3),
    Ob.g 3 true rfl fun c hpc => r_lss rfl (c.m 4 rfl hpc) (c.m 5 rfl hpc),
    Ob.d fun c => r_and rfl (c.n 3 rfl) (fun h => c.m 6 rfl h), trivial⟩ ?_
   intro a77 w77 τ77 st77 f77
   obtain ⟨e0, e3, e4, e18, e24, -⟩ := f77.ks [(0, _), (3, _), (4, _), (18, _), (24, _)] ⟨e0, e3, e4, e18, e24, trivial⟩
   have e213 : get a77 213 = (.bool ((decide ((mid : Int) < (e : Int))) && (decide ((e : Int) < (b : Int))))) := f77.v 7 rfl
   replace r0 := f77.io 0 rfl
   clear f77
   show Code.wp _ _ _ a77 w77
   refine wp_cond_split (t := (decide ((mid : Int) < (e : Int))) && (decide ((e : Int) < (b : Int)))) e213 (fun hc26 => ?_) (fun hc26 => ?_)
   · try simp only [Bool.and_eq_true, decide_eq_true_eq] at hc26
     refine region_St (bf := [0, 0, 0, 0, 0, 31]) (sp := [det _ 214 _, det _ 215 _, det _ 216 _, det _ 217 _, det _ 218 _, own _ _ _ 0 0 _]) [io r0] mixed st77 (by kernel_rfl) ⟨r0, trivial⟩
      ⟨Ob.d fun c => r_move rfl (c.p e0),
      Ob.d fun c => r_move rfl (c.p e18),
      Ob.d fun c => r_move rfl (c.p e24),
      Ob.d fun c => r_move rfl (c.p e3),
      Ob.d fun c => r_move rfl (c.p e4),
      Ob.callIn rfl rfl rfl (by decide) (fun _ a_ _ _ c => ⟨_, _, (e_call5 rfl rfl Try.call43 (c.n 0 rfl) (c.n 1 rfl) (c.n 2 rfl) (c.n 3 rfl) (c.n 4 rfl)), c.p e0, c.io 0 rfl, fun ho_ => ih v (mF ltR xs a s mid) mid e b _ ho_ (by omega) (by omega) (by (try rw [mF_len (by omega) (by omega) (by (try rw [rotF_len (by omega) (by omega) (by omega)]); omega)]); (try rw [rotF_len (by omega) (by omega) (by omega)]); omega) (by (try rw [mF_len (by omega) (by omega) (by (try rw [rotF_len (by omega) (by omega) (by omega)]); omega)]); (try rw [rotF_len (by omega) (by omega) (by omega)]); omega) (by omega) (sym_pre2 hS1 hS2 hA hB hC hD h3 hR (ys := xs) (zs := mF ltR xs a s mid) (by first | rfl | exact (rotF_triv (by omega) (by omega) (by omega)).symm) (by first | rfl | exact (mF_triv (by omega) (by omega) (by omega)).symm)).1 (sym_pre2 hS1 hS2 hA hB hC hD h3 hR (ys := xs) (zs := mF ltR xs a s mid) (by first | rfl | exact (rotF_triv (by omega) (by omega) (by omega)).symm) (by first | rfl | exact (mF_triv (by omega) (by omega) (by omega)).symm)).2⟩), trivial⟩ ?_
     intro a78 w78 τ78 st78 f78
     obtain ⟨e0, -⟩ := f78.ks [(0, _)] ⟨e0, trivial⟩
     replace r0 : ownR RowE 36 (mF ltR (mF ltR xs a s mid) mid e b) (τ78 0) v w78 := f78.ro 5 e0 rfl
     clear f78
     refine end0 (fn := Try.f43) rfl st78.defers ?_
     exact ⟨rfl, (sym_final ltR_swo hS1 hS2 hA hB hC hD h3 hC1 hC2 hR (ys := xs) (zs := mF ltR xs a s mid) (us := mF ltR (mF ltR xs a s mid) mid e b) (by first | rfl | exact (rotF_triv (by omega) (by omega) (by omega)).symm) (by first | rfl | exact (mF_triv (by omega) (by omega) (by omega)).symm) (by first | rfl | exact (mF_triv (by omega) (by omega) (by omega)).symm)) ▸ r0.1, st78.extIn⟩
   try simp only [Bool.and_eq_false_iff, decide_eq_false_iff_not, Int.not_lt] at hc26
   refine wp_skip ?_
   refine end0 (fn := Try.f43) rfl st77.defers ?_
   exact ⟨rfl, (sym_final ltR_swo hS1 hS2 hA hB hC hD h3 hC1 hC2 hR (ys := xs) (zs := mF ltR xs a s mid) (us := mF ltR xs a s mid) (by first | rfl | exact (rotF_triv (by omega) (by omega) (by omega)).symm) (by first | rfl | exact (mF_triv (by omega) (by omega) (by omega)).symm) (by first | rfl | exact (mF_triv (by omega) (by omega) (by omega)).symm)) ▸ r0.1, st77.extIn⟩
 try simp only [Bool.and_eq_false_iff, decide_eq_false_iff_not, Int.not_lt] at hc25
 refine wp_skip ?_
 show Code.wp _ _ _ a75 w75
 refine wp_seq ?_
 refine region_St (bf := [0, 0, 3, 7, 15, 15, 63, 127]) (sp := [det _ 206 _, det _ 207 _, det _ 208 _, det _ 209 _, gdet _ 210 _ _, gdet _ 211 _ _, gdet _ 212 _ _, det _ 213 _]) [io r0] mixed st75 (by kernel_rfl) ⟨r0, trivial⟩
  ⟨Ob.d fun c => r_move rfl (c.p e18),
  Ob.d fun c => r_move rfl (c.p e24),
  Ob.d fun c => r_lss rfl (c.n 0 rfl) (c.n 1 rfl),
  Ob.d fun c => r_move rfl (c.n 2 rfl),
  Ob.g 3 true rfl fun c hpc => r_move rfl (c.p e24),
  Ob.g 3 true rfl fun c hpc => r_move rfl (c.p e3),
  Ob.g 3 true rfl fun c hpc => r_lss rfl (c.m 4 rfl hpc) (c.m 5 rfl hpc),
  Ob.d fun c => r_and rfl (c.n 3 rfl) (fun h => c.m 6 rfl h), trivial⟩ ?_
 intro a79 w79 τ79 st79 f79
 obtain ⟨e0, e3, e4, e18, e24, -⟩ := f79.ks [(0, _), (3, _), (4, _), (18, _), (24, _)] ⟨e0, e3, e4, e18, e24, trivial⟩
 have e213 : get a79 213 = (.bool ((decide ((mid : Int) < (e : Int))) && (decide ((e : Int) < (b : Int))))) := f79.v 7 rfl
 replace r0 := f79.io 0 rfl
 clear f79
 show Code.wp _ _ _ a79 w79
 refine wp_cond_split (t := (decide ((mid : Int) < (e : Int))) && (decide ((e : Int) < (b : Int)))) e213 (fun hc27 => ?_) (fun hc27 => ?_)
 · try simp only [Bool.and_eq_true, decide_eq_true_eq] at hc27
   refine region_St (bf := [0, 0, 0, 0, 0, 31]) (sp := [det _ 214 _, det _ 215 _, det _ 216 _, det _ 217 _, det _ 218 _, own _ _ _ 0 0 _]) [io r0] mixed st79 (by kernel_rfl) ⟨r0, trivial⟩
    ⟨Ob.d fun c => r_move rfl (c.p e0),
    Ob.d fun c => r_move rfl (c.p e18),
    Ob.d fun c => r_move rfl (c.p e24),
    Ob.d fun c => r_move rfl (c.p e3),
    Ob.d fun c => r_move rfl (c.p e4),
    Ob.callIn rfl rfl rfl (by decide) (fun _ a_ _ _ c => ⟨_, _, (e_call5 rfl rfl Try.call43 (c.n 0 rfl) (c.n 1 rfl) (c.n 2 rfl) (c.n 3 rfl) (c.n 4 rfl)), c.p e0, c.io 0 rfl, fun ho_ => ih v xs mid e b _ ho_ (by omega) (by omega) (by (try rw [mF_len (by omega) (by omega) (by (try rw [rotF_len (by omega) (by omega) (by omega)]); omega)]); (try rw [rotF_len (by omega) (by omega) (by omega)]); omega) (by (try rw [mF_len (by omega) (by omega) (by (try rw [rotF_len (by omega) (by omega) (by omega)]); omega)]); (try rw [rotF_len (by omega) (by omega) (by omega)]); omega) (by omega) (sym_pre2 hS1 hS2 hA hB hC hD h3 hR (ys := xs) (zs := xs) (by first | rfl | exact (rotF_triv (by omega) (by omega) (by omega)).symm) (by first | rfl | exact (mF_triv (by omega) (by omega) (by omega)).symm)).1 (sym_pre2 hS1 hS2 hA hB hC hD h3 hR (ys := xs) (zs := xs) (by first | rfl | exact (rotF_triv (by omega) (by omega) (by omega)).symm) (by first | rfl | exact (mF_triv (by omega) (by omega) (by omega)).symm)).2⟩), trivial⟩ ?_
   intro a80 w80 τ80 st80 f80
   obtain ⟨e0, -⟩ := f80.ks [(0, _)] ⟨e0, trivial⟩
   replace r0 : ownR RowE 36 (mF ltR xs mid e b) (τ80 0) v w80 := f80.ro 5 e0 rfl
   clear f80
   refine end0 (fn := Try.f43) rfl st80.defers ?_
   exact ⟨rfl, (sym_final ltR_swo hS1 hS2 hA hB hC hD h3 hC1 hC2 hR (ys := xs) (zs := xs) (us := mF ltR xs mid e b) (by first | rfl | exact (rotF_triv (by omega) (by omega) (by omega)).symm) (by first | rfl | exact (mF_triv (by omega) (by omega) (by omega)).symm) (by first | rfl | exact (mF_triv (by omega) (by omega) (by omega)).symm)) ▸ r0.1, st80.extIn⟩
 try simp only [Bool.and_eq_false_iff, decide_eq_false_iff_not, Int.not_lt] at hc27
 refine wp_skip ?_
 refine end0 (fn := Try.f43) rfl st79.defers ?_
 exact ⟨rfl, (sym_final ltR_swo hS1 hS2 hA hB hC hD h3 hC1 hC2 hR (ys := xs) (zs := xs) (us := xs) (by first | rfl | exact (rotF_triv (by omega) (by omega) (by omega)).symm) (by first | rfl | exact (mF_triv (by omega) (by omega) (by omega)).symm) (by first | rfl | exact (mF_triv (by omega) (by omega) (by omega)).symm)) ▸ r0.1, st79.extIn⟩

theorem rowSym_all : ∀ d, rowSymC d
  | 0 => fun v xs a m b w ho h1 h2 h3 hbig hd hS1 hS2 => absurd hd (by omega)
  | d + 1 => fun v xs a m b w ho h1 h2 h3 hbig hd hS1 hS2 => rowSym_step (rowSym_all d) v xs a m b w ho h1 h2 h3 hbig hd hS1 hS2
end B
end Go.Proofs.Ythaeepiichphjaa
