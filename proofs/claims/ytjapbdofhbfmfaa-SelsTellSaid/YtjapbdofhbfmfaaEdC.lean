/-
  Walks, printed by a program (gen.py): EdC.
-/
import Derived.Test.YtjapbdofhbfmfaaEdB
import Derived.Test.YtjapbdofhbfmfaaSelC
set_option linter.unusedSimpArgs false
set_option linter.unusedVariables false
namespace Go.Proofs.Ytjapbdofhbfmfaa
namespace B
open Go.RowKit
open Srt
theorem ltE_iff (x y : Int × Int × ByteArray) : ltE x y = true ↔ x.1 < y.1 ∨ (x.1 = y.1 ∧ x.2.1 < y.2.1) := by
  unfold ltE cmpE
  rw [decide_eq_true_eq, lt_or]
theorem ltE_swo : Swo ltE := by
  constructor
  · intro x y h
    rw [ltE_iff] at h
    rw [← Bool.not_eq_true, ltE_iff]; omega
  · intro x y z h1 h2
    rw [← Bool.not_eq_true, ltE_iff] at h1 h2 ⊢; omega
def editSymC (d : Nat) : Prop := ∀ (v : Value) (xs : List (Int × Int × ByteArray)) (a m b : Nat) (w : World), OwnT EditE 42 w v xs → a < m → m < b → b ≤ xs.length → xs.length ≤ 1000000000000 → b - a ≤ d → Sorted ltE (seg xs a m) → Sorted ltE (seg xs m b) →
    Calls Try.prog 46 #[v, .int .i64 (a : Int), .int .i64 (m : Int), .int .i64 (b : Int), (.func (.func 40) #[] #[])] w (fun e w' => e = .returned (.tuple #[]) ∧ OwnT EditE 42 w' v (mF ltE xs a m b) ∧ Ext (fun k => v.ownBlock = some k) w w')

set_option maxRecDepth 100000 in
set_option maxHeartbeats 8000000 in
theorem editSym_step {d : Nat} (ih : editSymC d) (v : Value) (xs : List (Int × Int × ByteArray)) (a m b : Nat) (w : World) (ho : OwnT EditE 42 w v xs) (h1 : a < m) (h2 : m < b) (h3 : b ≤ xs.length) (hbig : xs.length ≤ 1000000000000) (hd : b - a ≤ d + 1) (hS1 : Sorted ltE (seg xs a m)) (hS2 : Sorted ltE (seg xs m b)) :
    Calls Try.prog 46 #[v, .int .i64 (a : Int), .int .i64 (m : Int), .int .i64 (b : Int), (.func (.func 40) #[] #[])] w (fun e w' => e = .returned (.tuple #[]) ∧ OwnT EditE 42 w' v (mF ltE xs a m b) ∧ Ext (fun k => v.ownBlock = some k) w w') := by
  refine enterIn (fun g => v.ownBlock = some g) (fun g hg => ho.lt g hg) (n := 220) Try.func46 rfl rfl (Nat.le_of_ble_eq_true rfl) ?_
  intro a0 τ0 ha hτ st0
  have e0 : get a0 0 = v := ha 0 _ rfl
  have e1 : get a0 1 = (.int .i64 ((a : Int))) := ha 1 _ rfl
  have e2 : get a0 2 = (.int .i64 ((m : Int))) := ha 2 _ rfl
  have e3 : get a0 3 = (.int .i64 ((b : Int))) := ha 3 _ rfl
  have e4 : get a0 4 = (.func (.func 40) #[] #[]) := ha 4 _ rfl
  clear ha
  have r0 : ownR EditE 42 xs (τ0 0) v w := ⟨ho, fun g hg => by rw [hτ]; exact hg⟩
  have hle := r0.le
  refine wp_seq ?_
  refine wp_seq ?_
  refine region_St (bf := [0, 0, 3, 7]) (sp := [
      (det (fun k => v.ownBlock = some k ∨ w.heap.size ≤ k) 25 (.int .i64 ((m : Int)))),
        (det (fun k => v.ownBlock = some k ∨ w.heap.size ≤ k) 26 (.int .i64 ((a : Int)))),
        (det (fun k => v.ownBlock = some k ∨ w.heap.size ≤ k) 27 (.int .i64 ((m : Int) - (a : Int)))),
        (det (fun k => v.ownBlock = some k ∨ w.heap.size ≤ k) 28 (.bool (decide ((m : Int) - (a : Int) = 1))))])
    [(iown EditE 42 (fun k => v.ownBlock = some k ∨ w.heap.size ≤ k) v (xs))] mixed st0 (by kernel_rfl) ⟨r0, trivial⟩
    ⟨Ob.det rfl rfl rfl (fun _ a_ _ _ c => r_move rfl (c.eo e2 (by kernel_rfl))),
       Ob.det rfl rfl rfl (fun _ a_ _ _ c => r_move rfl (c.eo e1 (by kernel_rfl))),
       Ob.det rfl rfl rfl (fun _ a_ _ _ c => r_sub rfl (c.ev 0 rfl rfl) (c.ev 1 rfl rfl) (by omega)),
       Ob.det rfl rfl rfl (fun _ a_ _ _ c => r_eql rfl (c.ev 2 rfl rfl) rfl),
     trivial⟩ ?_
  intro a1 w1 τ1 st1 f1
  replace e0 := f1.old e0 (by kernel_rfl)
  replace e1 := f1.old e1 (by kernel_rfl)
  replace e2 := f1.old e2 (by kernel_rfl)
  replace e3 := f1.old e3 (by kernel_rfl)
  replace e4 := f1.old e4 (by kernel_rfl)
  have e28 : get a1 28 = (.bool (decide ((m : Int) - (a : Int) = 1))) := f1.v 3 rfl
  replace r0 : ownR EditE 42 (xs) (τ1 0) v w1 := f1.iown 0 rfl rfl
  clear f1
  show Code.wp _ _ _ a1 w1
  refine wp_cond_split (t := decide ((m : Int) - (a : Int) = 1)) e28 (fun hc1 => ?_) (fun hc1 => ?_)
  · try simp only [Bool.and_eq_true, Bool.or_eq_true, decide_eq_true_eq, decide_eq_false_iff_not, Bool.not_eq_true', Bool.and_eq_false_iff, Bool.or_eq_false_iff, Bool.not_eq_false', Int.not_lt, Int.not_le, beq_iff_eq, selB] at hc1
    refine wp_seq ?_
    refine region_St (bf := [0, 1]) (sp := [
        (det (fun k => v.ownBlock = some k ∨ w.heap.size ≤ k) 29 (.int .i64 ((m : Int)))),
            (det (fun k => v.ownBlock = some k ∨ w.heap.size ≤ k) 10 (.int .i64 ((m : Int))))])
      [(iown EditE 42 (fun k => v.ownBlock = some k ∨ w.heap.size ≤ k) v (xs))] mixed st1 (by kernel_rfl) ⟨r0, trivial⟩
      ⟨Ob.det rfl rfl rfl (fun _ a_ _ _ c => r_move rfl (c.eo e2 (by kernel_rfl))),
           Ob.det rfl rfl rfl (fun _ a_ _ _ c => r_assign rfl (c.ev 0 rfl rfl)),
       trivial⟩ ?_
    intro a2 w2 τ2 st2 f2
    replace e0 := f2.old e0 (by kernel_rfl)
    replace e1 := f2.old e1 (by kernel_rfl)
    replace e2 := f2.old e2 (by kernel_rfl)
    replace e3 := f2.old e3 (by kernel_rfl)
    replace e4 := f2.old e4 (by kernel_rfl)
    have e10 : get a2 10 = (.int .i64 ((m : Int))) := f2.v 1 rfl
    replace r0 : ownR EditE 42 (xs) (τ2 0) v w2 := f2.iown 0 rfl rfl
    clear f2
    show Code.wp _ _ _ a2 w2
    refine wp_seq ?_
    refine region_St (bf := [0, 1]) (sp := [
        (det (fun k => v.ownBlock = some k ∨ w.heap.size ≤ k) 30 (.int .i64 ((b : Int)))),
            (det (fun k => v.ownBlock = some k ∨ w.heap.size ≤ k) 11 (.int .i64 ((b : Int))))])
      [(iown EditE 42 (fun k => v.ownBlock = some k ∨ w.heap.size ≤ k) v (xs))] mixed st2 (by kernel_rfl) ⟨r0, trivial⟩
      ⟨Ob.det rfl rfl rfl (fun _ a_ _ _ c => r_move rfl (c.eo e3 (by kernel_rfl))),
           Ob.det rfl rfl rfl (fun _ a_ _ _ c => r_assign rfl (c.ev 0 rfl rfl)),
       trivial⟩ ?_
    intro a3 w3 τ3 st3 f3
    replace e0 := f3.old e0 (by kernel_rfl)
    replace e1 := f3.old e1 (by kernel_rfl)
    replace e2 := f3.old e2 (by kernel_rfl)
    replace e3 := f3.old e3 (by kernel_rfl)
    replace e4 := f3.old e4 (by kernel_rfl)
    replace e10 := f3.old e10 (by kernel_rfl)
    have e11 : get a3 11 = (.int .i64 ((b : Int))) := f3.v 1 rfl
    replace r0 : ownR EditE 42 (xs) (τ3 0) v w3 := f3.iown 0 rfl rfl
    clear f3
    show Code.wp _ _ _ a3 w3
    refine wp_seq ?_
    refine wp_block ?_
    refine wp_loop (fun a_ w_ => ∃ (i j : Nat) (τ : Nat → Foot), (m ≤ i) ∧
            (i ≤ j) ∧
            (j ≤ b) ∧
            (i = m ∨ ltE (nth xs ((i : Int) - 1)) (nth xs (a : Int)) = true) ∧
            (j = b ∨ ltE (nth xs (j : Int)) (nth xs (a : Int)) = false) ∧
            St (fun k => v.ownBlock = some k ∨ w.heap.size ≤ k) w 220 a_ w_ τ ∧
            get a_ 10 = (.int .i64 ((i : Int))) ∧
            get a_ 11 = (.int .i64 ((j : Int))) ∧
            get a_ 0 = v ∧
            get a_ 1 = (.int .i64 ((a : Int))) ∧
            get a_ 2 = (.int .i64 ((m : Int))) ∧
            get a_ 3 = (.int .i64 ((b : Int))) ∧
            get a_ 4 = (.func (.func 40) #[] #[]) ∧
            ownR EditE 42 (xs) (τ 0) v w_) (fun a_ _ => (intOf (get a_ 11)).toNat - (intOf (get a_ 10)).toNat) ?_ ?_
    · refine ⟨m, b, τ3, ?_, ?_, ?_, ?_, ?_, st3, (e10.trans (int_eq (by omega))), (e11.trans (int_eq (by omega))), e0, e1, e2, e3, e4, r0⟩
      · omega
      · omega
      · omega
      · left; rfl
      · left; rfl
    intro a4 w4 hI
    obtain ⟨i, j, τ4, q0, q1, q2, q3, q4, st4, e10, e11, e0, e1, e2, e3, e4, r0⟩ := hI
    have q_1 := q0; have q_3 := q2; have q_4 := q3; have q_5 := q4
    have m10 := e10
    have m11 := e11
    refine wp_seq ?_
    refine wp_seq ?_
    refine region_St (bf := [0, 0, 3]) (sp := [
        (det (fun k => v.ownBlock = some k ∨ w.heap.size ≤ k) 31 (.int .i64 ((i : Int)))),
            (det (fun k => v.ownBlock = some k ∨ w.heap.size ≤ k) 32 (.int .i64 ((j : Int)))),
            (det (fun k => v.ownBlock = some k ∨ w.heap.size ≤ k) 33 (.bool (decide ((i : Int) < (j : Int)))))])
      [(iown EditE 42 (fun k => v.ownBlock = some k ∨ w.heap.size ≤ k) v (xs))] mixed st4 (by kernel_rfl) ⟨r0, trivial⟩
      ⟨Ob.det rfl rfl rfl (fun _ a_ _ _ c => r_move rfl (c.eo e10 (by kernel_rfl))),
           Ob.det rfl rfl rfl (fun _ a_ _ _ c => r_move rfl (c.eo e11 (by kernel_rfl))),
           Ob.det rfl rfl rfl (fun _ a_ _ _ c => r_lss rfl (c.ev 0 rfl rfl) (c.ev 1 rfl rfl)),
       trivial⟩ ?_
    intro a5 w5 τ5 st5 f5
    replace e0 := f5.old e0 (by kernel_rfl)
    replace e1 := f5.old e1 (by kernel_rfl)
    replace e2 := f5.old e2 (by kernel_rfl)
    replace e3 := f5.old e3 (by kernel_rfl)
    replace e4 := f5.old e4 (by kernel_rfl)
    replace e10 := f5.old e10 (by kernel_rfl)
    replace e11 := f5.old e11 (by kernel_rfl)
    have e33 : get a5 33 = (.bool (decide ((i : Int) < (j : Int)))) := f5.v 2 rfl
    replace r0 : ownR EditE 42 (xs) (τ5 0) v w5 := f5.iown 0 rfl rfl
    clear f5
    show Code.wp _ _ _ a5 w5
    refine wp_cond_split (t := decide ((i : Int) < (j : Int))) e33 (fun hc2 => ?_) (fun hc2 => ?_)
    · try simp only [Bool.and_eq_true, Bool.or_eq_true, decide_eq_true_eq, decide_eq_false_iff_not, Bool.not_eq_true', Bool.and_eq_false_iff, Bool.or_eq_false_iff, Bool.not_eq_false', Int.not_lt, Int.not_le, beq_iff_eq, selB] at hc2
      refine wp_skip ?_
      show Code.wp _ _ _ a5 w5
      refine wp_block ?_
      refine wp_seq ?_
      refine region_St (bf := [0, 0, 3, 7, 15, 31, 63]) (sp := [
          (det (fun k => v.ownBlock = some k ∨ w.heap.size ≤ k) 34 (.int .i64 ((i : Int)))),
                (det (fun k => v.ownBlock = some k ∨ w.heap.size ≤ k) 35 (.int .i64 ((j : Int)))),
                (det (fun k => v.ownBlock = some k ∨ w.heap.size ≤ k) 36 (.int .i64 ((i : Int) + (j : Int)))),
                (det (fun k => v.ownBlock = some k ∨ w.heap.size ≤ k) 37 (.int .u64 ((i : Int) + (j : Int)))),
                (det (fun k => v.ownBlock = some k ∨ w.heap.size ≤ k) 38 (.int .u64 (((i : Int) + (j : Int)) / 2))),
                (det (fun k => v.ownBlock = some k ∨ w.heap.size ≤ k) 39 (.int .i64 (((i : Int) + (j : Int)) / 2))),
                (det (fun k => v.ownBlock = some k ∨ w.heap.size ≤ k) 12 (.int .i64 (((i : Int) + (j : Int)) / 2)))])
        [(iown EditE 42 (fun k => v.ownBlock = some k ∨ w.heap.size ≤ k) v (xs))] mixed st5 (by kernel_rfl) ⟨r0, trivial⟩
        ⟨Ob.det rfl rfl rfl (fun _ a_ _ _ c => r_move rfl (c.eo e10 (by kernel_rfl))),
               Ob.det rfl rfl rfl (fun _ a_ _ _ c => r_move rfl (c.eo e11 (by kernel_rfl))),
               Ob.det rfl rfl rfl (fun _ a_ _ _ c => r_add rfl (c.ev 0 rfl rfl) (c.ev 1 rfl rfl) (by omega)),
               Ob.det rfl rfl rfl (fun _ a_ _ _ c => r_convIn rfl Try.underlying3 Try.underlying50 (c.ev 2 rfl rfl) (by omega) (by omega) (by decide)),
               Ob.det rfl rfl rfl (fun _ a_ _ _ c => r_shr1 rfl (c.ev 3 rfl rfl) rfl),
               Ob.det rfl rfl rfl (fun _ a_ _ _ c => r_convIn rfl Try.underlying50 Try.underlying3 (c.ev 4 rfl rfl) (by omega) (by omega) (by decide)),
               Ob.det rfl rfl rfl (fun _ a_ _ _ c => r_assign rfl (c.ev 5 rfl rfl)),
         trivial⟩ ?_
      intro a6 w6 τ6 st6 f6
      replace e0 := f6.old e0 (by kernel_rfl)
      replace e1 := f6.old e1 (by kernel_rfl)
      replace e2 := f6.old e2 (by kernel_rfl)
      replace e3 := f6.old e3 (by kernel_rfl)
      replace e4 := f6.old e4 (by kernel_rfl)
      replace e10 := f6.old e10 (by kernel_rfl)
      replace e11 := f6.old e11 (by kernel_rfl)
      have e12 : get a6 12 = (.int .i64 (((i : Int) + (j : Int)) / 2)) := f6.v 6 rfl
      replace e33 := f6.old e33 (by kernel_rfl)
      replace r0 : ownR EditE 42 (xs) (τ6 0) v w6 := f6.iown 0 rfl rfl
      clear f6
      obtain ⟨h, hh⟩ : ∃ x_ : Nat, ((i : Int) + (j : Int)) / 2 = (x_ : Int) := ⟨(i + j) / 2, by omega⟩
      replace e12 := e12.trans (int_eq hh)
      show Code.wp _ _ _ a6 w6
      refine wp_seq ?_
      refine region_St (bf := [0, 0, 0, 6, 14, 0, 0, 96, 224, 511, 1023]) (sp := [
          (det (fun k => v.ownBlock = some k ∨ w.heap.size ≤ k) 40 (.func (.func 40) #[] #[])),
                (det (fun k => v.ownBlock = some k ∨ w.heap.size ≤ k) 41 v),
                (det (fun k => v.ownBlock = some k ∨ w.heap.size ≤ k) 42 (.int .i64 ((h : Int)))),
                (det (fun k => v.ownBlock = some k ∨ w.heap.size ≤ k) 43 (.pointer (some ((ptrOf v).add (((h : Int) : Int).toNat * 3))))),
                (det (fun k => v.ownBlock = some k ∨ w.heap.size ≤ k) 44 (.agg #[(.int .i64 ((nth xs ((h : Int))).1)), (.int .i64 ((nth xs ((h : Int))).2.1)), (.string ((nth xs ((h : Int))).2.2))])),
                (det (fun k => v.ownBlock = some k ∨ w.heap.size ≤ k) 45 v),
                (det (fun k => v.ownBlock = some k ∨ w.heap.size ≤ k) 46 (.int .i64 ((a : Int)))),
                (det (fun k => v.ownBlock = some k ∨ w.heap.size ≤ k) 47 (.pointer (some ((ptrOf v).add (((a : Int) : Int).toNat * 3))))),
                (det (fun k => v.ownBlock = some k ∨ w.heap.size ≤ k) 48 (.agg #[(.int .i64 ((nth xs ((a : Int))).1)), (.int .i64 ((nth xs ((a : Int))).2.1)), (.string ((nth xs ((a : Int))).2.2))])),
                (det (fun k => v.ownBlock = some k ∨ w.heap.size ≤ k) 49 (.int .i64 (cmpE (nth xs ((h : Int))) (nth xs ((a : Int)))))),
                (det (fun k => v.ownBlock = some k ∨ w.heap.size ≤ k) 50 (.bool (decide (cmpE (nth xs ((h : Int))) (nth xs ((a : Int))) < 0))))])
        [(iown EditE 42 (fun k => v.ownBlock = some k ∨ w.heap.size ≤ k) v (xs))] mixed st6 (by kernel_rfl) ⟨r0, trivial⟩
        ⟨Ob.det rfl rfl rfl (fun _ a_ _ _ c => r_move rfl (c.eo e4 (by kernel_rfl))),
               Ob.det rfl rfl rfl (fun _ a_ _ _ c => r_move rfl (c.eo e0 (by kernel_rfl))),
               Ob.det rfl rfl rfl (fun _ a_ _ _ c => r_move rfl (c.eo e12 (by kernel_rfl))),
               Ob.det rfl rfl rfl (fun _ a_ _ _ c => r_indexAddr rfl Try.underlying37 Try.sizeOf42 (c.ev 1 rfl rfl) r0.isSl (c.ev 2 rfl rfl) (by omega) (by omega)),
               Ob.det rfl rfl rfl (fun _ a_ _ _ c => r_loadN (vs := [(.int .i64 ((nth xs ((h : Int))).1)), (.int .i64 ((nth xs ((h : Int))).2.1)), (.string ((nth xs ((h : Int))).2.2))]) rfl Try.isAgg42 Try.sizeOf42 (c.ev 3 rfl rfl) rfl (fun _ _ hj => ((c.iown 0 rfl rfl (by kernel_rfl)).1.sl).elem (nth_some (by omega) (by omega)) hj)),
               Ob.det rfl rfl rfl (fun _ a_ _ _ c => r_move rfl (c.eo e0 (by kernel_rfl))),
               Ob.det rfl rfl rfl (fun _ a_ _ _ c => r_move rfl (c.eo e1 (by kernel_rfl))),
               Ob.det rfl rfl rfl (fun _ a_ _ _ c => r_indexAddr rfl Try.underlying37 Try.sizeOf42 (c.ev 5 rfl rfl) r0.isSl (c.ev 6 rfl rfl) (by omega) (by omega)),
               Ob.det rfl rfl rfl (fun _ a_ _ _ c => r_loadN (vs := [(.int .i64 ((nth xs ((a : Int))).1)), (.int .i64 ((nth xs ((a : Int))).2.1)), (.string ((nth xs ((a : Int))).2.2))]) rfl Try.isAgg42 Try.sizeOf42 (c.ev 7 rfl rfl) rfl (fun _ _ hj => ((c.iown 0 rfl rfl (by kernel_rfl)).1.sl).elem (nth_some (by omega) (by omega)) hj)),
               Ob.call rfl rfl rfl (fun _ a_ _ _ c => ⟨_, _, (e_call2 rfl (c.ev 0 rfl rfl) Try.call40 (c.ev 4 rfl rfl) (c.ev 8 rfl rfl)), cmpE_c (nth xs ((h : Int))) (nth xs ((a : Int))) _⟩),
               Ob.det rfl rfl rfl (fun _ a_ _ _ c => r_lss rfl (c.ev 9 rfl rfl) rfl),
         trivial⟩ ?_
      intro a7 w7 τ7 st7 f7
      replace e0 := f7.old e0 (by kernel_rfl)
      replace e1 := f7.old e1 (by kernel_rfl)
      replace e2 := f7.old e2 (by kernel_rfl)
      replace e3 := f7.old e3 (by kernel_rfl)
      replace e4 := f7.old e4 (by kernel_rfl)
      replace e10 := f7.old e10 (by kernel_rfl)
      replace e11 := f7.old e11 (by kernel_rfl)
      replace e12 := f7.old e12 (by kernel_rfl)
      replace e33 := f7.old e33 (by kernel_rfl)
      have e50 : get a7 50 = (.bool (decide (cmpE (nth xs ((h : Int))) (nth xs ((a : Int))) < 0))) := f7.v 10 rfl
      replace r0 : ownR EditE 42 (xs) (τ7 0) v w7 := f7.iown 0 rfl rfl
      clear f7
      show Code.wp _ _ _ a7 w7
      refine wp_cond_split (t := decide (cmpE (nth xs ((h : Int))) (nth xs ((a : Int))) < 0)) e50 (fun hc3 => ?_) (fun hc3 => ?_)
      · try simp only [Bool.and_eq_true, Bool.or_eq_true, decide_eq_true_eq, decide_eq_false_iff_not, Bool.not_eq_true', Bool.and_eq_false_iff, Bool.or_eq_false_iff, Bool.not_eq_false', Int.not_lt, Int.not_le, beq_iff_eq, selB] at hc3
        refine region_St (bf := [0, 1, 3]) (sp := [
            (det (fun k => v.ownBlock = some k ∨ w.heap.size ≤ k) 51 (.int .i64 ((h : Int)))),
                    (det (fun k => v.ownBlock = some k ∨ w.heap.size ≤ k) 52 (.int .i64 ((h : Int) + 1))),
                    (det (fun k => v.ownBlock = some k ∨ w.heap.size ≤ k) 10 (.int .i64 ((h : Int) + 1)))])
          [(iown EditE 42 (fun k => v.ownBlock = some k ∨ w.heap.size ≤ k) v (xs))] mixed st7 (by kernel_rfl) ⟨r0, trivial⟩
          ⟨Ob.det rfl rfl rfl (fun _ a_ _ _ c => r_move rfl (c.eo e12 (by kernel_rfl))),
                   Ob.det rfl rfl rfl (fun _ a_ _ _ c => r_add rfl (c.ev 0 rfl rfl) rfl (by omega)),
                   Ob.det rfl rfl rfl (fun _ a_ _ _ c => r_assign rfl (c.ev 1 rfl rfl)),
           trivial⟩ ?_
        intro a8 w8 τ8 st8 f8
        replace e0 := f8.old e0 (by kernel_rfl)
        replace e1 := f8.old e1 (by kernel_rfl)
        replace e2 := f8.old e2 (by kernel_rfl)
        replace e3 := f8.old e3 (by kernel_rfl)
        replace e4 := f8.old e4 (by kernel_rfl)
        have e10 : get a8 10 = (.int .i64 ((h : Int) + 1)) := f8.v 2 rfl
        replace e11 := f8.old e11 (by kernel_rfl)
        replace e12 := f8.old e12 (by kernel_rfl)
        replace e33 := f8.old e33 (by kernel_rfl)
        replace e50 := f8.old e50 (by kernel_rfl)
        replace r0 : ownR EditE 42 (xs) (τ8 0) v w8 := f8.iown 0 rfl rfl
        clear f8
        show _
        refine ⟨⟨h + 1, j, τ8, ?_, ?_, ?_, ?_, ?_, st8, (e10.trans (int_eq (by omega))), (e11.trans (int_eq (by omega))), e0, e1, e2, e3, e4, r0⟩, ?_⟩
        · omega
        · omega
        · omega
        · first | exact q3 | (right; rw [show (((h + 1 : Nat) : Int) - 1) = (h : Int) by omega]; exact (by simp only [ltE, decide_eq_true_eq]; assumption))
        · first | exact q4 | (right; exact (by simp only [ltE, decide_eq_false_iff_not, Int.not_lt]; assumption))
        · simp only [m10, m11, e10, e11, intOf]; omega
      try simp only [Bool.and_eq_true, Bool.or_eq_true, decide_eq_true_eq, decide_eq_false_iff_not, Bool.not_eq_true', Bool.and_eq_false_iff, Bool.or_eq_false_iff, Bool.not_eq_false', Int.not_lt, Int.not_le, beq_iff_eq, selB] at hc3
      refine region_St (bf := [0, 1]) (sp := [
          (det (fun k => v.ownBlock = some k ∨ w.heap.size ≤ k) 53 (.int .i64 ((h : Int)))),
                (det (fun k => v.ownBlock = some k ∨ w.heap.size ≤ k) 11 (.int .i64 ((h : Int))))])
        [(iown EditE 42 (fun k => v.ownBlock = some k ∨ w.heap.size ≤ k) v (xs))] mixed st7 (by kernel_rfl) ⟨r0, trivial⟩
        ⟨Ob.det rfl rfl rfl (fun _ a_ _ _ c => r_move rfl (c.eo e12 (by kernel_rfl))),
               Ob.det rfl rfl rfl (fun _ a_ _ _ c => r_assign rfl (c.ev 0 rfl rfl)),
         trivial⟩ ?_
      intro a9 w9 τ9 st9 f9
      replace e0 := f9.old e0 (by kernel_rfl)
      replace e1 := f9.old e1 (by kernel_rfl)
      replace e2 := f9.old e2 (by kernel_rfl)
      replace e3 := f9.old e3 (by kernel_rfl)
      replace e4 := f9.old e4 (by kernel_rfl)
      replace e10 := f9.old e10 (by kernel_rfl)
      have e11 : get a9 11 = (.int .i64 ((h : Int))) := f9.v 1 rfl
      replace e12 := f9.old e12 (by kernel_rfl)
      replace e33 := f9.old e33 (by kernel_rfl)
      replace e50 := f9.old e50 (by kernel_rfl)
      replace r0 : ownR EditE 42 (xs) (τ9 0) v w9 := f9.iown 0 rfl rfl
      clear f9
      show _
      refine ⟨⟨i, h, τ9, ?_, ?_, ?_, ?_, ?_, st9, (e10.trans (int_eq (by omega))), (e11.trans (int_eq (by omega))), e0, e1, e2, e3, e4, r0⟩, ?_⟩
      · omega
      · omega
      · omega
      · first | exact q3 | (right; rw [show (((h + 1 : Nat) : Int) - 1) = (h : Int) by omega]; exact (by simp only [ltE, decide_eq_true_eq]; assumption))
      · first | exact q4 | (right; exact (by simp only [ltE, decide_eq_false_iff_not, Int.not_lt]; assumption))
      · simp only [m10, m11, e10, e11, intOf]; omega
    try simp only [Bool.and_eq_true, Bool.or_eq_true, decide_eq_true_eq, decide_eq_false_iff_not, Bool.not_eq_true', Bool.and_eq_false_iff, Bool.or_eq_false_iff, Bool.not_eq_false', Int.not_lt, Int.not_le, beq_iff_eq, selB] at hc2
    refine wp_exit ?_
    repeat (with_reducible refine then_exit ?_)
    refine exit_here ?_
    show Code.wp _ _ _ a5 w5
    refine wp_seq ?_
    refine wp_seq ?_
    refine region_St (bf := [0, 1]) (sp := [
        (det (fun k => v.ownBlock = some k ∨ w.heap.size ≤ k) 54 (.int .i64 ((a : Int)))),
            (det (fun k => v.ownBlock = some k ∨ w.heap.size ≤ k) 13 (.int .i64 ((a : Int))))])
      [(iown EditE 42 (fun k => v.ownBlock = some k ∨ w.heap.size ≤ k) v (xs))] mixed st5 (by kernel_rfl) ⟨r0, trivial⟩
      ⟨Ob.det rfl rfl rfl (fun _ a_ _ _ c => r_move rfl (c.eo e1 (by kernel_rfl))),
           Ob.det rfl rfl rfl (fun _ a_ _ _ c => r_assign rfl (c.ev 0 rfl rfl)),
       trivial⟩ ?_
    intro a10 w10 τ10 st10 f10
    replace e0 := f10.old e0 (by kernel_rfl)
    replace e1 := f10.old e1 (by kernel_rfl)
    replace e2 := f10.old e2 (by kernel_rfl)
    replace e3 := f10.old e3 (by kernel_rfl)
    replace e4 := f10.old e4 (by kernel_rfl)
    replace e10 := f10.old e10 (by kernel_rfl)
    have e13 : get a10 13 = (.int .i64 ((a : Int))) := f10.v 1 rfl
    replace r0 : ownR EditE 42 (xs) (τ10 0) v w10 := f10.iown 0 rfl rfl
    clear f10
    show Code.wp _ _ _ a10 w10
    refine wp_block ?_
    refine wp_loop (fun a_ w_ => ∃ (n : Nat) (τ : Nat → Foot), (n ≤ i - 1 - a) ∧
            St (fun k => v.ownBlock = some k ∨ w.heap.size ≤ k) w 220 a_ w_ τ ∧
            get a_ 13 = (.int .i64 ((a : Int) + (n : Int))) ∧
            get a_ 0 = v ∧
            get a_ 1 = (.int .i64 ((a : Int))) ∧
            get a_ 2 = (.int .i64 ((m : Int))) ∧
            get a_ 3 = (.int .i64 ((b : Int))) ∧
            get a_ 4 = (.func (.func 40) #[] #[]) ∧
            get a_ 10 = (.int .i64 ((i : Int))) ∧
            ownR EditE 42 (bup xs a n) (τ 0) v w_) (fun a_ _ => i - 1 - (intOf (get a_ 13)).toNat) ?_ ?_
    · refine ⟨0, τ10, ?_, st10, (e13.trans (int_eq (by omega))), e0, e1, e2, e3, e4, e10, ?_⟩
      · omega
      · exact r0.cast (by rfl)
    intro a11 w11 hI
    obtain ⟨n, τ11, q0, st11, e13, e0, e1, e2, e3, e4, e10, r0⟩ := hI
    have hl := bup_len xs a n
    have m13 := e13
    refine wp_seq ?_
    refine wp_seq ?_
    refine region_St (bf := [0, 0, 2, 7]) (sp := [
        (det (fun k => v.ownBlock = some k ∨ w.heap.size ≤ k) 55 (.int .i64 ((a : Int) + (n : Int)))),
            (det (fun k => v.ownBlock = some k ∨ w.heap.size ≤ k) 56 (.int .i64 ((i : Int)))),
            (det (fun k => v.ownBlock = some k ∨ w.heap.size ≤ k) 57 (.int .i64 ((i : Int) - 1))),
            (det (fun k => v.ownBlock = some k ∨ w.heap.size ≤ k) 58 (.bool (decide ((a : Int) + (n : Int) < (i : Int) - 1))))])
      [(iown EditE 42 (fun k => v.ownBlock = some k ∨ w.heap.size ≤ k) v (bup xs a n))] mixed st11 (by kernel_rfl) ⟨r0, trivial⟩
      ⟨Ob.det rfl rfl rfl (fun _ a_ _ _ c => r_move rfl (c.eo e13 (by kernel_rfl))),
           Ob.det rfl rfl rfl (fun _ a_ _ _ c => r_move rfl (c.eo e10 (by kernel_rfl))),
           Ob.det rfl rfl rfl (fun _ a_ _ _ c => r_sub rfl (c.ev 1 rfl rfl) rfl (by omega)),
           Ob.det rfl rfl rfl (fun _ a_ _ _ c => r_lss rfl (c.ev 0 rfl rfl) (c.ev 2 rfl rfl)),
       trivial⟩ ?_
    intro a12 w12 τ12 st12 f12
    replace e0 := f12.old e0 (by kernel_rfl)
    replace e1 := f12.old e1 (by kernel_rfl)
    replace e2 := f12.old e2 (by kernel_rfl)
    replace e3 := f12.old e3 (by kernel_rfl)
    replace e4 := f12.old e4 (by kernel_rfl)
    replace e10 := f12.old e10 (by kernel_rfl)
    replace e13 := f12.old e13 (by kernel_rfl)
    have e58 : get a12 58 = (.bool (decide ((a : Int) + (n : Int) < (i : Int) - 1))) := f12.v 3 rfl
    replace r0 : ownR EditE 42 (bup xs a n) (τ12 0) v w12 := f12.iown 0 rfl rfl
    clear f12
    show Code.wp _ _ _ a12 w12
    refine wp_cond_split (t := decide ((a : Int) + (n : Int) < (i : Int) - 1)) e58 (fun hc4 => ?_) (fun hc4 => ?_)
    · try simp only [Bool.and_eq_true, Bool.or_eq_true, decide_eq_true_eq, decide_eq_false_iff_not, Bool.not_eq_true', Bool.and_eq_false_iff, Bool.or_eq_false_iff, Bool.not_eq_false', Int.not_lt, Int.not_le, beq_iff_eq, selB] at hc4
      refine wp_skip ?_
      show Code.wp _ _ _ a12 w12
      refine wp_seq ?_
      refine wp_block ?_
      refine region_St (bf := [0, 0, 0, 0, 8, 0, 0, 64, 224, 480, 0, 0, 3072, 7168, 16355, 32739, 65535, 131071]) (sp := [
          (det (fun k => v.ownBlock = some k ∨ w.heap.size ≤ k) 61 v),
                (det (fun k => v.ownBlock = some k ∨ w.heap.size ≤ k) 62 (.int .i64 ((a : Int) + (n : Int)))),
                (det (fun k => v.ownBlock = some k ∨ w.heap.size ≤ k) 63 v),
                (det (fun k => v.ownBlock = some k ∨ w.heap.size ≤ k) 64 (.int .i64 ((a : Int) + (n : Int)))),
                (det (fun k => v.ownBlock = some k ∨ w.heap.size ≤ k) 65 (.int .i64 ((a : Int) + (n : Int) + 1))),
                (det (fun k => v.ownBlock = some k ∨ w.heap.size ≤ k) 66 v),
                (det (fun k => v.ownBlock = some k ∨ w.heap.size ≤ k) 67 (.int .i64 ((a : Int) + (n : Int)))),
                (det (fun k => v.ownBlock = some k ∨ w.heap.size ≤ k) 68 (.int .i64 ((a : Int) + (n : Int) + 1))),
                (det (fun k => v.ownBlock = some k ∨ w.heap.size ≤ k) 69 (.pointer (some ((ptrOf v).add (((a : Int) + (n : Int) + 1 : Int).toNat * 3))))),
                (det (fun k => v.ownBlock = some k ∨ w.heap.size ≤ k) 70 (.agg #[(.int .i64 ((nth (bup xs a n) ((a : Int) + (n : Int) + 1)).1)), (.int .i64 ((nth (bup xs a n) ((a : Int) + (n : Int) + 1)).2.1)), (.string ((nth (bup xs a n) ((a : Int) + (n : Int) + 1)).2.2))])),
                (det (fun k => v.ownBlock = some k ∨ w.heap.size ≤ k) 71 v),
                (det (fun k => v.ownBlock = some k ∨ w.heap.size ≤ k) 72 (.int .i64 ((a : Int) + (n : Int)))),
                (det (fun k => v.ownBlock = some k ∨ w.heap.size ≤ k) 73 (.pointer (some ((ptrOf v).add (((a : Int) + (n : Int) : Int).toNat * 3))))),
                (det (fun k => v.ownBlock = some k ∨ w.heap.size ≤ k) 74 (.agg #[(.int .i64 ((nth (bup xs a n) ((a : Int) + (n : Int))).1)), (.int .i64 ((nth (bup xs a n) ((a : Int) + (n : Int))).2.1)), (.string ((nth (bup xs a n) ((a : Int) + (n : Int))).2.2))])),
                (det (fun k => v.ownBlock = some k ∨ w.heap.size ≤ k) 75 (.pointer (some ((ptrOf v).add (((a : Int) + (n : Int) : Int).toNat * 3))))),
                (own EditE 42 (fun k => v.ownBlock = some k ∨ w.heap.size ≤ k) 0 0 ((bup xs a n).set ((a : Int) + (n : Int)).toNat (nth (bup xs a n) ((a : Int) + (n : Int) + 1)))),
                (det (fun k => v.ownBlock = some k ∨ w.heap.size ≤ k) 76 (.pointer (some ((ptrOf v).add (((a : Int) + (n : Int) + 1 : Int).toNat * 3))))),
                (own EditE 42 (fun k => v.ownBlock = some k ∨ w.heap.size ≤ k) 0 0 (((bup xs a n).set ((a : Int) + (n : Int)).toNat (nth (bup xs a n) ((a : Int) + (n : Int) + 1))).set ((a : Int) + (n : Int) + 1).toNat (nth (bup xs a n) ((a : Int) + (n : Int)))))])
        [(iown EditE 42 (fun k => v.ownBlock = some k ∨ w.heap.size ≤ k) v (bup xs a n))] mixed st12 (by kernel_rfl) ⟨r0, trivial⟩
        ⟨Ob.det rfl rfl rfl (fun _ a_ _ _ c => r_move rfl (c.eo e0 (by kernel_rfl))),
               Ob.det rfl rfl rfl (fun _ a_ _ _ c => r_move rfl (c.eo e13 (by kernel_rfl))),
               Ob.det rfl rfl rfl (fun _ a_ _ _ c => r_move rfl (c.eo e0 (by kernel_rfl))),
               Ob.det rfl rfl rfl (fun _ a_ _ _ c => r_move rfl (c.eo e13 (by kernel_rfl))),
               Ob.det rfl rfl rfl (fun _ a_ _ _ c => r_add rfl (c.ev 3 rfl rfl) rfl (by omega)),
               Ob.det rfl rfl rfl (fun _ a_ _ _ c => r_move rfl (c.eo e0 (by kernel_rfl))),
               Ob.det rfl rfl rfl (fun _ a_ _ _ c => r_move rfl (c.eo e13 (by kernel_rfl))),
               Ob.det rfl rfl rfl (fun _ a_ _ _ c => r_add rfl (c.ev 6 rfl rfl) rfl (by omega)),
               Ob.det rfl rfl rfl (fun _ a_ _ _ c => r_indexAddr rfl Try.underlying37 Try.sizeOf42 (c.ev 5 rfl rfl) r0.isSl (c.ev 7 rfl rfl) (by omega) (by omega)),
               Ob.det rfl rfl rfl (fun _ a_ _ _ c => r_loadN (vs := [(.int .i64 ((nth (bup xs a n) ((a : Int) + (n : Int) + 1)).1)), (.int .i64 ((nth (bup xs a n) ((a : Int) + (n : Int) + 1)).2.1)), (.string ((nth (bup xs a n) ((a : Int) + (n : Int) + 1)).2.2))]) rfl Try.isAgg42 Try.sizeOf42 (c.ev 8 rfl rfl) rfl (fun _ _ hj => ((c.iown 0 rfl rfl (by kernel_rfl)).1.sl).elem (nth_some (by omega) (by omega)) hj)),
               Ob.det rfl rfl rfl (fun _ a_ _ _ c => r_move rfl (c.eo e0 (by kernel_rfl))),
               Ob.det rfl rfl rfl (fun _ a_ _ _ c => r_move rfl (c.eo e13 (by kernel_rfl))),
               Ob.det rfl rfl rfl (fun _ a_ _ _ c => r_indexAddr rfl Try.underlying37 Try.sizeOf42 (c.ev 10 rfl rfl) r0.isSl (c.ev 11 rfl rfl) (by omega) (by omega)),
               Ob.det rfl rfl rfl (fun _ a_ _ _ c => r_loadN (vs := [(.int .i64 ((nth (bup xs a n) ((a : Int) + (n : Int))).1)), (.int .i64 ((nth (bup xs a n) ((a : Int) + (n : Int))).2.1)), (.string ((nth (bup xs a n) ((a : Int) + (n : Int))).2.2))]) rfl Try.isAgg42 Try.sizeOf42 (c.ev 12 rfl rfl) rfl (fun _ _ hj => ((c.iown 0 rfl rfl (by kernel_rfl)).1.sl).elem (nth_some (by omega) (by omega)) hj)),
               Ob.det rfl rfl rfl (fun _ a_ _ _ c => r_indexAddr rfl Try.underlying37 Try.sizeOf42 (c.ev 0 rfl rfl) r0.isSl (c.ev 1 rfl rfl) (by omega) (by omega)),
               Ob.storeElem (E := EditE) (i := ((a : Int) + (n : Int)).toNat) (off := 0) (u := (.agg #[(.int .i64 ((nth (bup xs a n) ((a : Int) + (n : Int) + 1)).1)), (.int .i64 ((nth (bup xs a n) ((a : Int) + (n : Int) + 1)).2.1)), (.string ((nth (bup xs a n) ((a : Int) + (n : Int) + 1)).2.2))])) (x := nth (bup xs a n) ((a : Int) + (n : Int))) (x' := (nth (bup xs a n) ((a : Int) + (n : Int) + 1))) rfl rfl rfl rfl Try.sizeOf42 (nth_some (by omega) (by (try simp only [List.length_set]); omega)) (Nat.le_of_ble_eq_true rfl) (by simp [Value.cells, Value.oneCell']) rfl (fun _ a_ _ _ c => ⟨by rw [(show get _ 0 = v from c.old e0 (by kernel_rfl))]; exact c.iown 0 rfl rfl (by kernel_rfl), (by rw [(c.ev 14 rfl rfl), (show get _ 0 = v from c.old e0 (by kernel_rfl))]; rfl), (c.ev 9 rfl rfl)⟩),
               Ob.det rfl rfl rfl (fun _ a_ _ _ c => r_indexAddr rfl Try.underlying37 Try.sizeOf42 (c.ev 2 rfl rfl) r0.isSl (c.ev 4 rfl rfl) (by omega) (by omega)),
               Ob.storeElem (E := EditE) (i := ((a : Int) + (n : Int) + 1).toNat) (off := 0) (u := (.agg #[(.int .i64 ((nth (bup xs a n) ((a : Int) + (n : Int))).1)), (.int .i64 ((nth (bup xs a n) ((a : Int) + (n : Int))).2.1)), (.string ((nth (bup xs a n) ((a : Int) + (n : Int))).2.2))])) (x := nth ((bup xs a n).set ((a : Int) + (n : Int)).toNat (nth (bup xs a n) ((a : Int) + (n : Int) + 1))) ((a : Int) + (n : Int) + 1)) (x' := (nth (bup xs a n) ((a : Int) + (n : Int)))) rfl rfl rfl rfl Try.sizeOf42 (nth_some (by omega) (by (try simp only [List.length_set]); omega)) (Nat.le_of_ble_eq_true rfl) (by simp [Value.cells, Value.oneCell']) rfl (fun _ a_ _ _ c => ⟨c.rown 15 rfl rfl (by kernel_rfl), (by rw [(c.ev 16 rfl rfl), (show get _ 0 = v from c.old e0 (by kernel_rfl))]; rfl), (c.ev 13 rfl rfl)⟩),
         trivial⟩ ?_
      intro a13 w13 τ13 st13 f13
      replace e0 := f13.old e0 (by kernel_rfl)
      replace e1 := f13.old e1 (by kernel_rfl)
      replace e2 := f13.old e2 (by kernel_rfl)
      replace e3 := f13.old e3 (by kernel_rfl)
      replace e4 := f13.old e4 (by kernel_rfl)
      replace e10 := f13.old e10 (by kernel_rfl)
      replace e13 := f13.old e13 (by kernel_rfl)
      replace e58 := f13.old e58 (by kernel_rfl)
      have r0 : ownR EditE 42 (((bup xs a n).set ((a : Int) + (n : Int)).toNat (nth (bup xs a n) ((a : Int) + (n : Int) + 1))).set ((a : Int) + (n : Int) + 1).toNat (nth (bup xs a n) ((a : Int) + (n : Int)))) (τ13 0) v w13 := f13.rown 17 rfl rfl e0
      clear f13
      show _
      show Code.wp _ _ _ a13 w13
      refine region_St (bf := [0, 1, 3]) (sp := [
          (det (fun k => v.ownBlock = some k ∨ w.heap.size ≤ k) 59 (.int .i64 ((a : Int) + (n : Int)))),
                (det (fun k => v.ownBlock = some k ∨ w.heap.size ≤ k) 60 (.int .i64 ((a : Int) + (n : Int) + 1))),
                (det (fun k => v.ownBlock = some k ∨ w.heap.size ≤ k) 13 (.int .i64 ((a : Int) + (n : Int) + 1)))])
        [(iown EditE 42 (fun k => v.ownBlock = some k ∨ w.heap.size ≤ k) v (((bup xs a n).set ((a : Int) + (n : Int)).toNat (nth (bup xs a n) ((a : Int) + (n : Int) + 1))).set ((a : Int) + (n : Int) + 1).toNat (nth (bup xs a n) ((a : Int) + (n : Int)))))] mixed st13 (by kernel_rfl) ⟨r0, trivial⟩
        ⟨Ob.det rfl rfl rfl (fun _ a_ _ _ c => r_move rfl (c.eo e13 (by kernel_rfl))),
               Ob.det rfl rfl rfl (fun _ a_ _ _ c => r_add rfl (c.ev 0 rfl rfl) rfl (by omega)),
               Ob.det rfl rfl rfl (fun _ a_ _ _ c => r_assign rfl (c.ev 1 rfl rfl)),
         trivial⟩ ?_
      intro a14 w14 τ14 st14 f14
      replace e0 := f14.old e0 (by kernel_rfl)
      replace e1 := f14.old e1 (by kernel_rfl)
      replace e2 := f14.old e2 (by kernel_rfl)
      replace e3 := f14.old e3 (by kernel_rfl)
      replace e4 := f14.old e4 (by kernel_rfl)
      replace e10 := f14.old e10 (by kernel_rfl)
      have e13 : get a14 13 = (.int .i64 ((a : Int) + (n : Int) + 1)) := f14.v 2 rfl
      replace e58 := f14.old e58 (by kernel_rfl)
      replace r0 : ownR EditE 42 (((bup xs a n).set ((a : Int) + (n : Int)).toNat (nth (bup xs a n) ((a : Int) + (n : Int) + 1))).set ((a : Int) + (n : Int) + 1).toNat (nth (bup xs a n) ((a : Int) + (n : Int)))) (τ14 0) v w14 := f14.iown 0 rfl rfl
      clear f14
      refine ⟨⟨n + 1, τ14, ?_, st14, (e13.trans (int_eq (by omega))), e0, e1, e2, e3, e4, e10, ?_⟩, ?_⟩
      · omega
      · exact r0.cast (by rfl)
      · simp only [m13, e13, intOf]; omega
    try simp only [Bool.and_eq_true, Bool.or_eq_true, decide_eq_true_eq, decide_eq_false_iff_not, Bool.not_eq_true', Bool.and_eq_false_iff, Bool.or_eq_false_iff, Bool.not_eq_false', Int.not_lt, Int.not_le, beq_iff_eq, selB] at hc4
    refine wp_exit ?_
    repeat (with_reducible refine then_exit ?_)
    refine exit_here ?_
    show Code.wp _ _ _ a12 w12
    refine wp_ret ?_
    repeat (first | with_reducible refine then_ret ?_ | with_reducible refine block_ret ?_)
    refine end0r (fn := Try.f46) rfl st12.defers ?_
    obtain rfl : i = j := by omega
    obtain rfl : m = a + 1 := by omega
    obtain rfl : n = i - 1 - a := by omega
    exact ⟨rfl, (sym_left ltE_swo hS2 q_1 q_3 h3 q_4 q_5) ▸ r0.1, st12.extIn⟩
  try simp only [Bool.and_eq_true, Bool.or_eq_true, decide_eq_true_eq, decide_eq_false_iff_not, Bool.not_eq_true', Bool.and_eq_false_iff, Bool.or_eq_false_iff, Bool.not_eq_false', Int.not_lt, Int.not_le, beq_iff_eq, selB] at hc1
  refine wp_skip ?_
  show Code.wp _ _ _ a1 w1
  refine wp_seq ?_
  refine wp_seq ?_
  refine region_St (bf := [0, 0, 3, 7]) (sp := [
      (det (fun k => v.ownBlock = some k ∨ w.heap.size ≤ k) 77 (.int .i64 ((b : Int)))),
        (det (fun k => v.ownBlock = some k ∨ w.heap.size ≤ k) 78 (.int .i64 ((m : Int)))),
        (det (fun k => v.ownBlock = some k ∨ w.heap.size ≤ k) 79 (.int .i64 ((b : Int) - (m : Int)))),
        (det (fun k => v.ownBlock = some k ∨ w.heap.size ≤ k) 80 (.bool (decide ((b : Int) - (m : Int) = 1))))])
    [(iown EditE 42 (fun k => v.ownBlock = some k ∨ w.heap.size ≤ k) v (xs))] mixed st1 (by kernel_rfl) ⟨r0, trivial⟩
    ⟨Ob.det rfl rfl rfl (fun _ a_ _ _ c => r_move rfl (c.eo e3 (by kernel_rfl))),
       Ob.det rfl rfl rfl (fun _ a_ _ _ c => r_move rfl (c.eo e2 (by kernel_rfl))),
       Ob.det rfl rfl rfl (fun _ a_ _ _ c => r_sub rfl (c.ev 0 rfl rfl) (c.ev 1 rfl rfl) (by omega)),
       Ob.det rfl rfl rfl (fun _ a_ _ _ c => r_eql rfl (c.ev 2 rfl rfl) rfl),
     trivial⟩ ?_
  intro a15 w15 τ15 st15 f15
  replace e0 := f15.old e0 (by kernel_rfl)
  replace e1 := f15.old e1 (by kernel_rfl)
  replace e2 := f15.old e2 (by kernel_rfl)
  replace e3 := f15.old e3 (by kernel_rfl)
  replace e4 := f15.old e4 (by kernel_rfl)
  have e80 : get a15 80 = (.bool (decide ((b : Int) - (m : Int) = 1))) := f15.v 3 rfl
  replace r0 : ownR EditE 42 (xs) (τ15 0) v w15 := f15.iown 0 rfl rfl
  clear f15
  show Code.wp _ _ _ a15 w15
  refine wp_cond_split (t := decide ((b : Int) - (m : Int) = 1)) e80 (fun hc5 => ?_) (fun hc5 => ?_)
  · try simp only [Bool.and_eq_true, Bool.or_eq_true, decide_eq_true_eq, decide_eq_false_iff_not, Bool.not_eq_true', Bool.and_eq_false_iff, Bool.or_eq_false_iff, Bool.not_eq_false', Int.not_lt, Int.not_le, beq_iff_eq, selB] at hc5
    refine wp_seq ?_
    refine region_St (bf := [0, 1]) (sp := [
        (det (fun k => v.ownBlock = some k ∨ w.heap.size ≤ k) 81 (.int .i64 ((a : Int)))),
            (det (fun k => v.ownBlock = some k ∨ w.heap.size ≤ k) 14 (.int .i64 ((a : Int))))])
      [(iown EditE 42 (fun k => v.ownBlock = some k ∨ w.heap.size ≤ k) v (xs))] mixed st15 (by kernel_rfl) ⟨r0, trivial⟩
      ⟨Ob.det rfl rfl rfl (fun _ a_ _ _ c => r_move rfl (c.eo e1 (by kernel_rfl))),
           Ob.det rfl rfl rfl (fun _ a_ _ _ c => r_assign rfl (c.ev 0 rfl rfl)),
       trivial⟩ ?_
    intro a16 w16 τ16 st16 f16
    replace e0 := f16.old e0 (by kernel_rfl)
    replace e1 := f16.old e1 (by kernel_rfl)
    replace e2 := f16.old e2 (by kernel_rfl)
    replace e3 := f16.old e3 (by kernel_rfl)
    replace e4 := f16.old e4 (by kernel_rfl)
    have e14 : get a16 14 = (.int .i64 ((a : Int))) := f16.v 1 rfl
    replace r0 : ownR EditE 42 (xs) (τ16 0) v w16 := f16.iown 0 rfl rfl
    clear f16
    show Code.wp _ _ _ a16 w16
    refine wp_seq ?_
    refine region_St (bf := [0, 1]) (sp := [
        (det (fun k => v.ownBlock = some k ∨ w.heap.size ≤ k) 82 (.int .i64 ((m : Int)))),
            (det (fun k => v.ownBlock = some k ∨ w.heap.size ≤ k) 15 (.int .i64 ((m : Int))))])
      [(iown EditE 42 (fun k => v.ownBlock = some k ∨ w.heap.size ≤ k) v (xs))] mixed st16 (by kernel_rfl) ⟨r0, trivial⟩
      ⟨Ob.det rfl rfl rfl (fun _ a_ _ _ c => r_move rfl (c.eo e2 (by kernel_rfl))),
           Ob.det rfl rfl rfl (fun _ a_ _ _ c => r_assign rfl (c.ev 0 rfl rfl)),
       trivial⟩ ?_
    intro a17 w17 τ17 st17 f17
    replace e0 := f17.old e0 (by kernel_rfl)
    replace e1 := f17.old e1 (by kernel_rfl)
    replace e2 := f17.old e2 (by kernel_rfl)
    replace e3 := f17.old e3 (by kernel_rfl)
    replace e4 := f17.old e4 (by kernel_rfl)
    replace e14 := f17.old e14 (by kernel_rfl)
    have e15 : get a17 15 = (.int .i64 ((m : Int))) := f17.v 1 rfl
    replace r0 : ownR EditE 42 (xs) (τ17 0) v w17 := f17.iown 0 rfl rfl
    clear f17
    show Code.wp _ _ _ a17 w17
    refine wp_seq ?_
    refine wp_block ?_
    refine wp_loop (fun a_ w_ => ∃ (i j : Nat) (τ : Nat → Foot), (a ≤ i) ∧
            (i ≤ j) ∧
            (j ≤ m) ∧
            (i = a ∨ ltE (nth xs (m : Int)) (nth xs ((i : Int) - 1)) = false) ∧
            (j = m ∨ ltE (nth xs (m : Int)) (nth xs (j : Int)) = true) ∧
            St (fun k => v.ownBlock = some k ∨ w.heap.size ≤ k) w 220 a_ w_ τ ∧
            get a_ 14 = (.int .i64 ((i : Int))) ∧
            get a_ 15 = (.int .i64 ((j : Int))) ∧
            get a_ 0 = v ∧
            get a_ 1 = (.int .i64 ((a : Int))) ∧
            get a_ 2 = (.int .i64 ((m : Int))) ∧
            get a_ 3 = (.int .i64 ((b : Int))) ∧
            get a_ 4 = (.func (.func 40) #[] #[]) ∧
            ownR EditE 42 (xs) (τ 0) v w_) (fun a_ _ => (intOf (get a_ 15)).toNat - (intOf (get a_ 14)).toNat) ?_ ?_
    · refine ⟨a, m, τ17, ?_, ?_, ?_, ?_, ?_, st17, (e14.trans (int_eq (by omega))), (e15.trans (int_eq (by omega))), e0, e1, e2, e3, e4, r0⟩
      · omega
      · omega
      · omega
      · left; rfl
      · left; rfl
    intro a18 w18 hI
    obtain ⟨i, j, τ18, q0, q1, q2, q3, q4, st18, e14, e15, e0, e1, e2, e3, e4, r0⟩ := hI
    have q_1 := q0; have q_3 := q2; have q_4 := q3; have q_5 := q4
    have m14 := e14
    have m15 := e15
    refine wp_seq ?_
    refine wp_seq ?_
    refine region_St (bf := [0, 0, 3]) (sp := [
        (det (fun k => v.ownBlock = some k ∨ w.heap.size ≤ k) 83 (.int .i64 ((i : Int)))),
            (det (fun k => v.ownBlock = some k ∨ w.heap.size ≤ k) 84 (.int .i64 ((j : Int)))),
            (det (fun k => v.ownBlock = some k ∨ w.heap.size ≤ k) 85 (.bool (decide ((i : Int) < (j : Int)))))])
      [(iown EditE 42 (fun k => v.ownBlock = some k ∨ w.heap.size ≤ k) v (xs))] mixed st18 (by kernel_rfl) ⟨r0, trivial⟩
      ⟨Ob.det rfl rfl rfl (fun _ a_ _ _ c => r_move rfl (c.eo e14 (by kernel_rfl))),
           Ob.det rfl rfl rfl (fun _ a_ _ _ c => r_move rfl (c.eo e15 (by kernel_rfl))),
           Ob.det rfl rfl rfl (fun _ a_ _ _ c => r_lss rfl (c.ev 0 rfl rfl) (c.ev 1 rfl rfl)),
       trivial⟩ ?_
    intro a19 w19 τ19 st19 f19
    replace e0 := f19.old e0 (by kernel_rfl)
    replace e1 := f19.old e1 (by kernel_rfl)
    replace e2 := f19.old e2 (by kernel_rfl)
    replace e3 := f19.old e3 (by kernel_rfl)
    replace e4 := f19.old e4 (by kernel_rfl)
    replace e14 := f19.old e14 (by kernel_rfl)
    replace e15 := f19.old e15 (by kernel_rfl)
    have e85 : get a19 85 = (.bool (decide ((i : Int) < (j : Int)))) := f19.v 2 rfl
    replace r0 : ownR EditE 42 (xs) (τ19 0) v w19 := f19.iown 0 rfl rfl
    clear f19
    show Code.wp _ _ _ a19 w19
    refine wp_cond_split (t := decide ((i : Int) < (j : Int))) e85 (fun hc6 => ?_) (fun hc6 => ?_)
    · try simp only [Bool.and_eq_true, Bool.or_eq_true, decide_eq_true_eq, decide_eq_false_iff_not, Bool.not_eq_true', Bool.and_eq_false_iff, Bool.or_eq_false_iff, Bool.not_eq_false', Int.not_lt, Int.not_le, beq_iff_eq, selB] at hc6
      refine wp_skip ?_
      show Code.wp _ _ _ a19 w19
      refine wp_block ?_
      refine wp_seq ?_
      refine region_St (bf := [0, 0, 3, 7, 15, 31, 63]) (sp := [
          (det (fun k => v.ownBlock = some k ∨ w.heap.size ≤ k) 86 (.int .i64 ((i : Int)))),
                (det (fun k => v.ownBlock = some k ∨ w.heap.size ≤ k) 87 (.int .i64 ((j : Int)))),
                (det (fun k => v.ownBlock = some k ∨ w.heap.size ≤ k) 88 (.int .i64 ((i : Int) + (j : Int)))),
                (det (fun k => v.ownBlock = some k ∨ w.heap.size ≤ k) 89 (.int .u64 ((i : Int) + (j : Int)))),
                (det (fun k => v.ownBlock = some k ∨ w.heap.size ≤ k) 90 (.int .u64 (((i : Int) + (j : Int)) / 2))),
                (det (fun k => v.ownBlock = some k ∨ w.heap.size ≤ k) 91 (.int .i64 (((i : Int) + (j : Int)) / 2))),
                (det (fun k => v.ownBlock = some k ∨ w.heap.size ≤ k) 16 (.int .i64 (((i : Int) + (j : Int)) / 2)))])
        [(iown EditE 42 (fun k => v.ownBlock = some k ∨ w.heap.size ≤ k) v (xs))] mixed st19 (by kernel_rfl) ⟨r0, trivial⟩
        ⟨Ob.det rfl rfl rfl (fun _ a_ _ _ c => r_move rfl (c.eo e14 (by kernel_rfl))),
               Ob.det rfl rfl rfl (fun _ a_ _ _ c => r_move rfl (c.eo e15 (by kernel_rfl))),
               Ob.det rfl rfl rfl (fun _ a_ _ _ c => r_add rfl (c.ev 0 rfl rfl) (c.ev 1 rfl rfl) (by omega)),
               Ob.det rfl rfl rfl (fun _ a_ _ _ c => r_convIn rfl Try.underlying3 Try.underlying50 (c.ev 2 rfl rfl) (by omega) (by omega) (by decide)),
               Ob.det rfl rfl rfl (fun _ a_ _ _ c => r_shr1 rfl (c.ev 3 rfl rfl) rfl),
               Ob.det rfl rfl rfl (fun _ a_ _ _ c => r_convIn rfl Try.underlying50 Try.underlying3 (c.ev 4 rfl rfl) (by omega) (by omega) (by decide)),
               Ob.det rfl rfl rfl (fun _ a_ _ _ c => r_assign rfl (c.ev 5 rfl rfl)),
         trivial⟩ ?_
      intro a20 w20 τ20 st20 f20
      replace e0 := f20.old e0 (by kernel_rfl)
      replace e1 := f20.old e1 (by kernel_rfl)
      replace e2 := f20.old e2 (by kernel_rfl)
      replace e3 := f20.old e3 (by kernel_rfl)
      replace e4 := f20.old e4 (by kernel_rfl)
      replace e14 := f20.old e14 (by kernel_rfl)
      replace e15 := f20.old e15 (by kernel_rfl)
      have e16 : get a20 16 = (.int .i64 (((i : Int) + (j : Int)) / 2)) := f20.v 6 rfl
      replace e85 := f20.old e85 (by kernel_rfl)
      replace r0 : ownR EditE 42 (xs) (τ20 0) v w20 := f20.iown 0 rfl rfl
      clear f20
      obtain ⟨h, hh⟩ : ∃ x_ : Nat, ((i : Int) + (j : Int)) / 2 = (x_ : Int) := ⟨(i + j) / 2, by omega⟩
      replace e16 := e16.trans (int_eq hh)
      show Code.wp _ _ _ a20 w20
      refine wp_seq ?_
      refine region_St (bf := [0, 0, 0, 6, 14, 0, 0, 96, 224, 511, 1023, 2047]) (sp := [
          (det (fun k => v.ownBlock = some k ∨ w.heap.size ≤ k) 92 (.func (.func 40) #[] #[])),
                (det (fun k => v.ownBlock = some k ∨ w.heap.size ≤ k) 93 v),
                (det (fun k => v.ownBlock = some k ∨ w.heap.size ≤ k) 94 (.int .i64 ((m : Int)))),
                (det (fun k => v.ownBlock = some k ∨ w.heap.size ≤ k) 95 (.pointer (some ((ptrOf v).add (((m : Int) : Int).toNat * 3))))),
                (det (fun k => v.ownBlock = some k ∨ w.heap.size ≤ k) 96 (.agg #[(.int .i64 ((nth xs ((m : Int))).1)), (.int .i64 ((nth xs ((m : Int))).2.1)), (.string ((nth xs ((m : Int))).2.2))])),
                (det (fun k => v.ownBlock = some k ∨ w.heap.size ≤ k) 97 v),
                (det (fun k => v.ownBlock = some k ∨ w.heap.size ≤ k) 98 (.int .i64 ((h : Int)))),
                (det (fun k => v.ownBlock = some k ∨ w.heap.size ≤ k) 99 (.pointer (some ((ptrOf v).add (((h : Int) : Int).toNat * 3))))),
                (det (fun k => v.ownBlock = some k ∨ w.heap.size ≤ k) 100 (.agg #[(.int .i64 ((nth xs ((h : Int))).1)), (.int .i64 ((nth xs ((h : Int))).2.1)), (.string ((nth xs ((h : Int))).2.2))])),
                (det (fun k => v.ownBlock = some k ∨ w.heap.size ≤ k) 101 (.int .i64 (cmpE (nth xs ((m : Int))) (nth xs ((h : Int)))))),
                (det (fun k => v.ownBlock = some k ∨ w.heap.size ≤ k) 102 (.bool (decide (cmpE (nth xs ((m : Int))) (nth xs ((h : Int))) < 0)))),
                (det (fun k => v.ownBlock = some k ∨ w.heap.size ≤ k) 103 (.bool (!(decide (cmpE (nth xs ((m : Int))) (nth xs ((h : Int))) < 0)))))])
        [(iown EditE 42 (fun k => v.ownBlock = some k ∨ w.heap.size ≤ k) v (xs))] mixed st20 (by kernel_rfl) ⟨r0, trivial⟩
        ⟨Ob.det rfl rfl rfl (fun _ a_ _ _ c => r_move rfl (c.eo e4 (by kernel_rfl))),
               Ob.det rfl rfl rfl (fun _ a_ _ _ c => r_move rfl (c.eo e0 (by kernel_rfl))),
               Ob.det rfl rfl rfl (fun _ a_ _ _ c => r_move rfl (c.eo e2 (by kernel_rfl))),
               Ob.det rfl rfl rfl (fun _ a_ _ _ c => r_indexAddr rfl Try.underlying37 Try.sizeOf42 (c.ev 1 rfl rfl) r0.isSl (c.ev 2 rfl rfl) (by omega) (by omega)),
               Ob.det rfl rfl rfl (fun _ a_ _ _ c => r_loadN (vs := [(.int .i64 ((nth xs ((m : Int))).1)), (.int .i64 ((nth xs ((m : Int))).2.1)), (.string ((nth xs ((m : Int))).2.2))]) rfl Try.isAgg42 Try.sizeOf42 (c.ev 3 rfl rfl) rfl (fun _ _ hj => ((c.iown 0 rfl rfl (by kernel_rfl)).1.sl).elem (nth_some (by omega) (by omega)) hj)),
               Ob.det rfl rfl rfl (fun _ a_ _ _ c => r_move rfl (c.eo e0 (by kernel_rfl))),
               Ob.det rfl rfl rfl (fun _ a_ _ _ c => r_move rfl (c.eo e16 (by kernel_rfl))),
               Ob.det rfl rfl rfl (fun _ a_ _ _ c => r_indexAddr rfl Try.underlying37 Try.sizeOf42 (c.ev 5 rfl rfl) r0.isSl (c.ev 6 rfl rfl) (by omega) (by omega)),
               Ob.det rfl rfl rfl (fun _ a_ _ _ c => r_loadN (vs := [(.int .i64 ((nth xs ((h : Int))).1)), (.int .i64 ((nth xs ((h : Int))).2.1)), (.string ((nth xs ((h : Int))).2.2))]) rfl Try.isAgg42 Try.sizeOf42 (c.ev 7 rfl rfl) rfl (fun _ _ hj => ((c.iown 0 rfl rfl (by kernel_rfl)).1.sl).elem (nth_some (by omega) (by omega)) hj)),
               Ob.call rfl rfl rfl (fun _ a_ _ _ c => ⟨_, _, (e_call2 rfl (c.ev 0 rfl rfl) Try.call40 (c.ev 4 rfl rfl) (c.ev 8 rfl rfl)), cmpE_c (nth xs ((m : Int))) (nth xs ((h : Int))) _⟩),
               Ob.det rfl rfl rfl (fun _ a_ _ _ c => r_lss rfl (c.ev 9 rfl rfl) rfl),
               Ob.det rfl rfl rfl (fun _ a_ _ _ c => r_not rfl (c.ev 10 rfl rfl)),
         trivial⟩ ?_
      intro a21 w21 τ21 st21 f21
      replace e0 := f21.old e0 (by kernel_rfl)
      replace e1 := f21.old e1 (by kernel_rfl)
      replace e2 := f21.old e2 (by kernel_rfl)
      replace e3 := f21.old e3 (by kernel_rfl)
      replace e4 := f21.old e4 (by kernel_rfl)
      replace e14 := f21.old e14 (by kernel_rfl)
      replace e15 := f21.old e15 (by kernel_rfl)
      replace e16 := f21.old e16 (by kernel_rfl)
      replace e85 := f21.old e85 (by kernel_rfl)
      have e103 : get a21 103 = (.bool (!(decide (cmpE (nth xs ((m : Int))) (nth xs ((h : Int))) < 0)))) := f21.v 11 rfl
      replace r0 : ownR EditE 42 (xs) (τ21 0) v w21 := f21.iown 0 rfl rfl
      clear f21
      show Code.wp _ _ _ a21 w21
      refine wp_cond_split (t := !(decide (cmpE (nth xs ((m : Int))) (nth xs ((h : Int))) < 0))) e103 (fun hc7 => ?_) (fun hc7 => ?_)
      · try simp only [Bool.and_eq_true, Bool.or_eq_true, decide_eq_true_eq, decide_eq_false_iff_not, Bool.not_eq_true', Bool.and_eq_false_iff, Bool.or_eq_false_iff, Bool.not_eq_false', Int.not_lt, Int.not_le, beq_iff_eq, selB] at hc7
        refine region_St (bf := [0, 1, 3]) (sp := [
            (det (fun k => v.ownBlock = some k ∨ w.heap.size ≤ k) 104 (.int .i64 ((h : Int)))),
                    (det (fun k => v.ownBlock = some k ∨ w.heap.size ≤ k) 105 (.int .i64 ((h : Int) + 1))),
                    (det (fun k => v.ownBlock = some k ∨ w.heap.size ≤ k) 14 (.int .i64 ((h : Int) + 1)))])
          [(iown EditE 42 (fun k => v.ownBlock = some k ∨ w.heap.size ≤ k) v (xs))] mixed st21 (by kernel_rfl) ⟨r0, trivial⟩
          ⟨Ob.det rfl rfl rfl (fun _ a_ _ _ c => r_move rfl (c.eo e16 (by kernel_rfl))),
                   Ob.det rfl rfl rfl (fun _ a_ _ _ c => r_add rfl (c.ev 0 rfl rfl) rfl (by omega)),
                   Ob.det rfl rfl rfl (fun _ a_ _ _ c => r_assign rfl (c.ev 1 rfl rfl)),
           trivial⟩ ?_
        intro a22 w22 τ22 st22 f22
        replace e0 := f22.old e0 (by kernel_rfl)
        replace e1 := f22.old e1 (by kernel_rfl)
        replace e2 := f22.old e2 (by kernel_rfl)
        replace e3 := f22.old e3 (by kernel_rfl)
        replace e4 := f22.old e4 (by kernel_rfl)
        have e14 : get a22 14 = (.int .i64 ((h : Int) + 1)) := f22.v 2 rfl
        replace e15 := f22.old e15 (by kernel_rfl)
        replace e16 := f22.old e16 (by kernel_rfl)
        replace e85 := f22.old e85 (by kernel_rfl)
        replace e103 := f22.old e103 (by kernel_rfl)
        replace r0 : ownR EditE 42 (xs) (τ22 0) v w22 := f22.iown 0 rfl rfl
        clear f22
        show _
        refine ⟨⟨h + 1, j, τ22, ?_, ?_, ?_, ?_, ?_, st22, (e14.trans (int_eq (by omega))), (e15.trans (int_eq (by omega))), e0, e1, e2, e3, e4, r0⟩, ?_⟩
        · omega
        · omega
        · omega
        · first | exact q3 | (right; rw [show (((h + 1 : Nat) : Int) - 1) = (h : Int) by omega]; exact (by simp only [ltE, decide_eq_false_iff_not, Int.not_lt]; assumption))
        · first | exact q4 | (right; exact (by simp only [ltE, decide_eq_true_eq]; assumption))
        · simp only [m14, m15, e14, e15, intOf]; omega
      try simp only [Bool.and_eq_true, Bool.or_eq_true, decide_eq_true_eq, decide_eq_false_iff_not, Bool.not_eq_true', Bool.and_eq_false_iff, Bool.or_eq_false_iff, Bool.not_eq_false', Int.not_lt, Int.not_le, beq_iff_eq, selB] at hc7
      refine region_St (bf := [0, 1]) (sp := [
          (det (fun k => v.ownBlock = some k ∨ w.heap.size ≤ k) 106 (.int .i64 ((h : Int)))),
                (det (fun k => v.ownBlock = some k ∨ w.heap.size ≤ k) 15 (.int .i64 ((h : Int))))])
        [(iown EditE 42 (fun k => v.ownBlock = some k ∨ w.heap.size ≤ k) v (xs))] mixed st21 (by kernel_rfl) ⟨r0, trivial⟩
        ⟨Ob.det rfl rfl rfl (fun _ a_ _ _ c => r_move rfl (c.eo e16 (by kernel_rfl))),
               Ob.det rfl rfl rfl (fun _ a_ _ _ c => r_assign rfl (c.ev 0 rfl rfl)),
         trivial⟩ ?_
      intro a23 w23 τ23 st23 f23
      replace e0 := f23.old e0 (by kernel_rfl)
      replace e1 := f23.old e1 (by kernel_rfl)
      replace e2 := f23.old e2 (by kernel_rfl)
      replace e3 := f23.old e3 (by kernel_rfl)
      replace e4 := f23.old e4 (by kernel_rfl)
      replace e14 := f23.old e14 (by kernel_rfl)
      have e15 : get a23 15 = (.int .i64 ((h : Int))) := f23.v 1 rfl
      replace e16 := f23.old e16 (by kernel_rfl)
      replace e85 := f23.old e85 (by kernel_rfl)
      replace e103 := f23.old e103 (by kernel_rfl)
      replace r0 : ownR EditE 42 (xs) (τ23 0) v w23 := f23.iown 0 rfl rfl
      clear f23
      show _
      refine ⟨⟨i, h, τ23, ?_, ?_, ?_, ?_, ?_, st23, (e14.trans (int_eq (by omega))), (e15.trans (int_eq (by omega))), e0, e1, e2, e3, e4, r0⟩, ?_⟩
      · omega
      · omega
      · omega
      · first | exact q3 | (right; rw [show (((h + 1 : Nat) : Int) - 1) = (h : Int) by omega]; exact (by simp only [ltE, decide_eq_false_iff_not, Int.not_lt]; assumption))
      · first | exact q4 | (right; exact (by simp only [ltE, decide_eq_true_eq]; assumption))
      · simp only [m14, m15, e14, e15, intOf]; omega
    try simp only [Bool.and_eq_true, Bool.or_eq_true, decide_eq_true_eq, decide_eq_false_iff_not, Bool.not_eq_true', Bool.and_eq_false_iff, Bool.or_eq_false_iff, Bool.not_eq_false', Int.not_lt, Int.not_le, beq_iff_eq, selB] at hc6
    refine wp_exit ?_
    repeat (with_reducible refine then_exit ?_)
    refine exit_here ?_
    show Code.wp _ _ _ a19 w19
    refine wp_seq ?_
    refine wp_seq ?_
    refine region_St (bf := [0, 1]) (sp := [
        (det (fun k => v.ownBlock = some k ∨ w.heap.size ≤ k) 107 (.int .i64 ((m : Int)))),
            (det (fun k => v.ownBlock = some k ∨ w.heap.size ≤ k) 17 (.int .i64 ((m : Int))))])
      [(iown EditE 42 (fun k => v.ownBlock = some k ∨ w.heap.size ≤ k) v (xs))] mixed st19 (by kernel_rfl) ⟨r0, trivial⟩
      ⟨Ob.det rfl rfl rfl (fun _ a_ _ _ c => r_move rfl (c.eo e2 (by kernel_rfl))),
           Ob.det rfl rfl rfl (fun _ a_ _ _ c => r_assign rfl (c.ev 0 rfl rfl)),
       trivial⟩ ?_
    intro a24 w24 τ24 st24 f24
    replace e0 := f24.old e0 (by kernel_rfl)
    replace e1 := f24.old e1 (by kernel_rfl)
    replace e2 := f24.old e2 (by kernel_rfl)
    replace e3 := f24.old e3 (by kernel_rfl)
    replace e4 := f24.old e4 (by kernel_rfl)
    replace e14 := f24.old e14 (by kernel_rfl)
    have e17 : get a24 17 = (.int .i64 ((m : Int))) := f24.v 1 rfl
    replace r0 : ownR EditE 42 (xs) (τ24 0) v w24 := f24.iown 0 rfl rfl
    clear f24
    show Code.wp _ _ _ a24 w24
    refine wp_block ?_
    refine wp_loop (fun a_ w_ => ∃ (n : Nat) (τ : Nat → Foot), (n ≤ m - i) ∧
            St (fun k => v.ownBlock = some k ∨ w.heap.size ≤ k) w 220 a_ w_ τ ∧
            get a_ 17 = (.int .i64 ((m : Int) - (n : Int))) ∧
            get a_ 0 = v ∧
            get a_ 1 = (.int .i64 ((a : Int))) ∧
            get a_ 2 = (.int .i64 ((m : Int))) ∧
            get a_ 3 = (.int .i64 ((b : Int))) ∧
            get a_ 4 = (.func (.func 40) #[] #[]) ∧
            get a_ 14 = (.int .i64 ((i : Int))) ∧
            ownR EditE 42 (bdn xs m n) (τ 0) v w_) (fun a_ _ => (intOf (get a_ 17)).toNat) ?_ ?_
    · refine ⟨0, τ24, ?_, st24, (e17.trans (int_eq (by omega))), e0, e1, e2, e3, e4, e14, ?_⟩
      · omega
      · exact r0.cast (by rfl)
    intro a25 w25 hI
    obtain ⟨n, τ25, q0, st25, e17, e0, e1, e2, e3, e4, e14, r0⟩ := hI
    have hl := bdn_len xs m n
    have m17 := e17
    refine wp_seq ?_
    refine wp_seq ?_
    refine region_St (bf := [0, 0, 3]) (sp := [
        (det (fun k => v.ownBlock = some k ∨ w.heap.size ≤ k) 108 (.int .i64 ((m : Int) - (n : Int)))),
            (det (fun k => v.ownBlock = some k ∨ w.heap.size ≤ k) 109 (.int .i64 ((i : Int)))),
            (det (fun k => v.ownBlock = some k ∨ w.heap.size ≤ k) 110 (.bool (decide ((i : Int) < (m : Int) - (n : Int)))))])
      [(iown EditE 42 (fun k => v.ownBlock = some k ∨ w.heap.size ≤ k) v (bdn xs m n))] mixed st25 (by kernel_rfl) ⟨r0, trivial⟩
      ⟨Ob.det rfl rfl rfl (fun _ a_ _ _ c => r_move rfl (c.eo e17 (by kernel_rfl))),
           Ob.det rfl rfl rfl (fun _ a_ _ _ c => r_move rfl (c.eo e14 (by kernel_rfl))),
           Ob.det rfl rfl rfl (fun _ a_ _ _ c => r_gtr rfl (c.ev 0 rfl rfl) (c.ev 1 rfl rfl)),
       trivial⟩ ?_
    intro a26 w26 τ26 st26 f26
    replace e0 := f26.old e0 (by kernel_rfl)
    replace e1 := f26.old e1 (by kernel_rfl)
    replace e2 := f26.old e2 (by kernel_rfl)
    replace e3 := f26.old e3 (by kernel_rfl)
    replace e4 := f26.old e4 (by kernel_rfl)
    replace e14 := f26.old e14 (by kernel_rfl)
    replace e17 := f26.old e17 (by kernel_rfl)
    have e110 : get a26 110 = (.bool (decide ((i : Int) < (m : Int) - (n : Int)))) := f26.v 2 rfl
    replace r0 : ownR EditE 42 (bdn xs m n) (τ26 0) v w26 := f26.iown 0 rfl rfl
    clear f26
    show Code.wp _ _ _ a26 w26
    refine wp_cond_split (t := decide ((i : Int) < (m : Int) - (n : Int))) e110 (fun hc8 => ?_) (fun hc8 => ?_)
    · try simp only [Bool.and_eq_true, Bool.or_eq_true, decide_eq_true_eq, decide_eq_false_iff_not, Bool.not_eq_true', Bool.and_eq_false_iff, Bool.or_eq_false_iff, Bool.not_eq_false', Int.not_lt, Int.not_le, beq_iff_eq, selB] at hc8
      refine wp_skip ?_
      show Code.wp _ _ _ a26 w26
      refine wp_seq ?_
      refine wp_block ?_
      refine region_St (bf := [0, 0, 0, 0, 8, 0, 0, 64, 224, 480, 0, 0, 3072, 7168, 16355, 32739, 65535, 131071]) (sp := [
          (det (fun k => v.ownBlock = some k ∨ w.heap.size ≤ k) 113 v),
                (det (fun k => v.ownBlock = some k ∨ w.heap.size ≤ k) 114 (.int .i64 ((m : Int) - (n : Int)))),
                (det (fun k => v.ownBlock = some k ∨ w.heap.size ≤ k) 115 v),
                (det (fun k => v.ownBlock = some k ∨ w.heap.size ≤ k) 116 (.int .i64 ((m : Int) - (n : Int)))),
                (det (fun k => v.ownBlock = some k ∨ w.heap.size ≤ k) 117 (.int .i64 ((m : Int) - (n : Int) - 1))),
                (det (fun k => v.ownBlock = some k ∨ w.heap.size ≤ k) 118 v),
                (det (fun k => v.ownBlock = some k ∨ w.heap.size ≤ k) 119 (.int .i64 ((m : Int) - (n : Int)))),
                (det (fun k => v.ownBlock = some k ∨ w.heap.size ≤ k) 120 (.int .i64 ((m : Int) - (n : Int) - 1))),
                (det (fun k => v.ownBlock = some k ∨ w.heap.size ≤ k) 121 (.pointer (some ((ptrOf v).add (((m : Int) - (n : Int) - 1 : Int).toNat * 3))))),
                (det (fun k => v.ownBlock = some k ∨ w.heap.size ≤ k) 122 (.agg #[(.int .i64 ((nth (bdn xs m n) ((m : Int) - (n : Int) - 1)).1)), (.int .i64 ((nth (bdn xs m n) ((m : Int) - (n : Int) - 1)).2.1)), (.string ((nth (bdn xs m n) ((m : Int) - (n : Int) - 1)).2.2))])),
                (det (fun k => v.ownBlock = some k ∨ w.heap.size ≤ k) 123 v),
                (det (fun k => v.ownBlock = some k ∨ w.heap.size ≤ k) 124 (.int .i64 ((m : Int) - (n : Int)))),
                (det (fun k => v.ownBlock = some k ∨ w.heap.size ≤ k) 125 (.pointer (some ((ptrOf v).add (((m : Int) - (n : Int) : Int).toNat * 3))))),
                (det (fun k => v.ownBlock = some k ∨ w.heap.size ≤ k) 126 (.agg #[(.int .i64 ((nth (bdn xs m n) ((m : Int) - (n : Int))).1)), (.int .i64 ((nth (bdn xs m n) ((m : Int) - (n : Int))).2.1)), (.string ((nth (bdn xs m n) ((m : Int) - (n : Int))).2.2))])),
                (det (fun k => v.ownBlock = some k ∨ w.heap.size ≤ k) 127 (.pointer (some ((ptrOf v).add (((m : Int) - (n : Int) : Int).toNat * 3))))),
                (own EditE 42 (fun k => v.ownBlock = some k ∨ w.heap.size ≤ k) 0 0 ((bdn xs m n).set ((m : Int) - (n : Int)).toNat (nth (bdn xs m n) ((m : Int) - (n : Int) - 1)))),
                (det (fun k => v.ownBlock = some k ∨ w.heap.size ≤ k) 128 (.pointer (some ((ptrOf v).add (((m : Int) - (n : Int) - 1 : Int).toNat * 3))))),
                (own EditE 42 (fun k => v.ownBlock = some k ∨ w.heap.size ≤ k) 0 0 (((bdn xs m n).set ((m : Int) - (n : Int)).toNat (nth (bdn xs m n) ((m : Int) - (n : Int) - 1))).set ((m : Int) - (n : Int) - 1).toNat (nth (bdn xs m n) ((m : Int) - (n : Int)))))])
        [(iown EditE 42 (fun k => v.ownBlock = some k ∨ w.heap.size ≤ k) v (bdn xs m n))] mixed st26 (by kernel_rfl) ⟨r0, trivial⟩
        ⟨Ob.det rfl rfl rfl (fun _ a_ _ _ c => r_move rfl (c.eo e0 (by kernel_rfl))),
               Ob.det rfl rfl rfl (fun _ a_ _ _ c => r_move rfl (c.eo e17 (by kernel_rfl))),
               Ob.det rfl rfl rfl (fun _ a_ _ _ c => r_move rfl (c.eo e0 (by kernel_rfl))),
               Ob.det rfl rfl rfl (fun _ a_ _ _ c => r_move rfl (c.eo e17 (by kernel_rfl))),
               Ob.det rfl rfl rfl (fun _ a_ _ _ c => r_sub rfl (c.ev 3 rfl rfl) rfl (by omega)),
               Ob.det rfl rfl rfl (fun _ a_ _ _ c => r_move rfl (c.eo e0 (by kernel_rfl))),
               Ob.det rfl rfl rfl (fun _ a_ _ _ c => r_move rfl (c.eo e17 (by kernel_rfl))),
               Ob.det rfl rfl rfl (fun _ a_ _ _ c => r_sub rfl (c.ev 6 rfl rfl) rfl (by omega)),
               Ob.det rfl rfl rfl (fun _ a_ _ _ c => r_indexAddr rfl Try.underlying37 Try.sizeOf42 (c.ev 5 rfl rfl) r0.isSl (c.ev 7 rfl rfl) (by omega) (by omega)),
               Ob.det rfl rfl rfl (fun _ a_ _ _ c => r_loadN (vs := [(.int .i64 ((nth (bdn xs m n) ((m : Int) - (n : Int) - 1)).1)), (.int .i64 ((nth (bdn xs m n) ((m : Int) - (n : Int) - 1)).2.1)), (.string ((nth (bdn xs m n) ((m : Int) - (n : Int) - 1)).2.2))]) rfl Try.isAgg42 Try.sizeOf42 (c.ev 8 rfl rfl) rfl (fun _ _ hj => ((c.iown 0 rfl rfl (by kernel_rfl)).1.sl).elem (nth_some (by omega) (by omega)) hj)),
               Ob.det rfl rfl rfl (fun _ a_ _ _ c => r_move rfl (c.eo e0 (by kernel_rfl))),
               Ob.det rfl rfl rfl (fun _ a_ _ _ c => r_move rfl (c.eo e17 (by kernel_rfl))),
               Ob.det rfl rfl rfl (fun _ a_ _ _ c => r_indexAddr rfl Try.underlying37 Try.sizeOf42 (c.ev 10 rfl rfl) r0.isSl (c.ev 11 rfl rfl) (by omega) (by omega)),
               Ob.det rfl rfl rfl (fun _ a_ _ _ c => r_loadN (vs := [(.int .i64 ((nth (bdn xs m n) ((m : Int) - (n : Int))).1)), (.int .i64 ((nth (bdn xs m n) ((m : Int) - (n : Int))).2.1)), (.string ((nth (bdn xs m n) ((m : Int) - (n : Int))).2.2))]) rfl Try.isAgg42 Try.sizeOf42 (c.ev 12 rfl rfl) rfl (fun _ _ hj => ((c.iown 0 rfl rfl (by kernel_rfl)).1.sl).elem (nth_some (by omega) (by omega)) hj)),
               Ob.det rfl rfl rfl (fun _ a_ _ _ c => r_indexAddr rfl Try.underlying37 Try.sizeOf42 (c.ev 0 rfl rfl) r0.isSl (c.ev 1 rfl rfl) (by omega) (by omega)),
               Ob.storeElem (E := EditE) (i := ((m : Int) - (n : Int)).toNat) (off := 0) (u := (.agg #[(.int .i64 ((nth (bdn xs m n) ((m : Int) - (n : Int) - 1)).1)), (.int .i64 ((nth (bdn xs m n) ((m : Int) - (n : Int) - 1)).2.1)), (.string ((nth (bdn xs m n) ((m : Int) - (n : Int) - 1)).2.2))])) (x := nth (bdn xs m n) ((m : Int) - (n : Int))) (x' := (nth (bdn xs m n) ((m : Int) - (n : Int) - 1))) rfl rfl rfl rfl Try.sizeOf42 (nth_some (by omega) (by (try simp only [List.length_set]); omega)) (Nat.le_of_ble_eq_true rfl) (by simp [Value.cells, Value.oneCell']) rfl (fun _ a_ _ _ c => ⟨by rw [(show get _ 0 = v from c.old e0 (by kernel_rfl))]; exact c.iown 0 rfl rfl (by kernel_rfl), (by rw [(c.ev 14 rfl rfl), (show get _ 0 = v from c.old e0 (by kernel_rfl))]; rfl), (c.ev 9 rfl rfl)⟩),
               Ob.det rfl rfl rfl (fun _ a_ _ _ c => r_indexAddr rfl Try.underlying37 Try.sizeOf42 (c.ev 2 rfl rfl) r0.isSl (c.ev 4 rfl rfl) (by omega) (by omega)),
               Ob.storeElem (E := EditE) (i := ((m : Int) - (n : Int) - 1).toNat) (off := 0) (u := (.agg #[(.int .i64 ((nth (bdn xs m n) ((m : Int) - (n : Int))).1)), (.int .i64 ((nth (bdn xs m n) ((m : Int) - (n : Int))).2.1)), (.string ((nth (bdn xs m n) ((m : Int) - (n : Int))).2.2))])) (x := nth ((bdn xs m n).set ((m : Int) - (n : Int)).toNat (nth (bdn xs m n) ((m : Int) - (n : Int) - 1))) ((m : Int) - (n : Int) - 1)) (x' := (nth (bdn xs m n) ((m : Int) - (n : Int)))) rfl rfl rfl rfl Try.sizeOf42 (nth_some (by omega) (by (try simp only [List.length_set]); omega)) (Nat.le_of_ble_eq_true rfl) (by simp [Value.cells, Value.oneCell']) rfl (fun _ a_ _ _ c => ⟨c.rown 15 rfl rfl (by kernel_rfl), (by rw [(c.ev 16 rfl rfl), (show get _ 0 = v from c.old e0 (by kernel_rfl))]; rfl), (c.ev 13 rfl rfl)⟩),
         trivial⟩ ?_
      intro a27 w27 τ27 st27 f27
      replace e0 := f27.old e0 (by kernel_rfl)
      replace e1 := f27.old e1 (by kernel_rfl)
      replace e2 := f27.old e2 (by kernel_rfl)
      replace e3 := f27.old e3 (by kernel_rfl)
      replace e4 := f27.old e4 (by kernel_rfl)
      replace e14 := f27.old e14 (by kernel_rfl)
      replace e17 := f27.old e17 (by kernel_rfl)
      replace e110 := f27.old e110 (by kernel_rfl)
      have r0 : ownR EditE 42 (((bdn xs m n).set ((m : Int) - (n : Int)).toNat (nth (bdn xs m n) ((m : Int) - (n : Int) - 1))).set ((m : Int) - (n : Int) - 1).toNat (nth (bdn xs m n) ((m : Int) - (n : Int)))) (τ27 0) v w27 := f27.rown 17 rfl rfl e0
      clear f27
      show _
      show Code.wp _ _ _ a27 w27
      refine region_St (bf := [0, 1, 3]) (sp := [
          (det (fun k => v.ownBlock = some k ∨ w.heap.size ≤ k) 111 (.int .i64 ((m : Int) - (n : Int)))),
                (det (fun k => v.ownBlock = some k ∨ w.heap.size ≤ k) 112 (.int .i64 ((m : Int) - (n : Int) - 1))),
                (det (fun k => v.ownBlock = some k ∨ w.heap.size ≤ k) 17 (.int .i64 ((m : Int) - (n : Int) - 1)))])
        [(iown EditE 42 (fun k => v.ownBlock = some k ∨ w.heap.size ≤ k) v (((bdn xs m n).set ((m : Int) - (n : Int)).toNat (nth (bdn xs m n) ((m : Int) - (n : Int) - 1))).set ((m : Int) - (n : Int) - 1).toNat (nth (bdn xs m n) ((m : Int) - (n : Int)))))] mixed st27 (by kernel_rfl) ⟨r0, trivial⟩
        ⟨Ob.det rfl rfl rfl (fun _ a_ _ _ c => r_move rfl (c.eo e17 (by kernel_rfl))),
               Ob.det rfl rfl rfl (fun _ a_ _ _ c => r_sub rfl (c.ev 0 rfl rfl) rfl (by omega)),
               Ob.det rfl rfl rfl (fun _ a_ _ _ c => r_assign rfl (c.ev 1 rfl rfl)),
         trivial⟩ ?_
      intro a28 w28 τ28 st28 f28
      replace e0 := f28.old e0 (by kernel_rfl)
      replace e1 := f28.old e1 (by kernel_rfl)
      replace e2 := f28.old e2 (by kernel_rfl)
      replace e3 := f28.old e3 (by kernel_rfl)
      replace e4 := f28.old e4 (by kernel_rfl)
      replace e14 := f28.old e14 (by kernel_rfl)
      have e17 : get a28 17 = (.int .i64 ((m : Int) - (n : Int) - 1)) := f28.v 2 rfl
      replace e110 := f28.old e110 (by kernel_rfl)
      replace r0 : ownR EditE 42 (((bdn xs m n).set ((m : Int) - (n : Int)).toNat (nth (bdn xs m n) ((m : Int) - (n : Int) - 1))).set ((m : Int) - (n : Int) - 1).toNat (nth (bdn xs m n) ((m : Int) - (n : Int)))) (τ28 0) v w28 := f28.iown 0 rfl rfl
      clear f28
      refine ⟨⟨n + 1, τ28, ?_, st28, (e17.trans (int_eq (by omega))), e0, e1, e2, e3, e4, e14, ?_⟩, ?_⟩
      · omega
      · exact r0.cast (by rfl)
      · simp only [m17, e17, intOf]; omega
    try simp only [Bool.and_eq_true, Bool.or_eq_true, decide_eq_true_eq, decide_eq_false_iff_not, Bool.not_eq_true', Bool.and_eq_false_iff, Bool.or_eq_false_iff, Bool.not_eq_false', Int.not_lt, Int.not_le, beq_iff_eq, selB] at hc8
    refine wp_exit ?_
    repeat (with_reducible refine then_exit ?_)
    refine exit_here ?_
    show Code.wp _ _ _ a26 w26
    refine wp_ret ?_
    repeat (first | with_reducible refine then_ret ?_ | with_reducible refine block_ret ?_)
    refine end0r (fn := Try.f46) rfl st26.defers ?_
    obtain rfl : i = j := by omega
    obtain rfl : b = m + 1 := by omega
    obtain rfl : n = m - i := by omega
    exact ⟨rfl, (sym_right ltE_swo hS1 q_1 q_3 (by omega) q_4 q_5) ▸ r0.1, st26.extIn⟩
  try simp only [Bool.and_eq_true, Bool.or_eq_true, decide_eq_true_eq, decide_eq_false_iff_not, Bool.not_eq_true', Bool.and_eq_false_iff, Bool.or_eq_false_iff, Bool.not_eq_false', Int.not_lt, Int.not_le, beq_iff_eq, selB] at hc5
  refine wp_skip ?_
  show Code.wp _ _ _ a15 w15
  refine wp_seq ?_
  refine region_St (bf := [0, 0, 3, 7, 15, 31, 63]) (sp := [
      (det (fun k => v.ownBlock = some k ∨ w.heap.size ≤ k) 129 (.int .i64 ((a : Int)))),
        (det (fun k => v.ownBlock = some k ∨ w.heap.size ≤ k) 130 (.int .i64 ((b : Int)))),
        (det (fun k => v.ownBlock = some k ∨ w.heap.size ≤ k) 131 (.int .i64 ((a : Int) + (b : Int)))),
        (det (fun k => v.ownBlock = some k ∨ w.heap.size ≤ k) 132 (.int .u64 ((a : Int) + (b : Int)))),
        (det (fun k => v.ownBlock = some k ∨ w.heap.size ≤ k) 133 (.int .u64 (((a : Int) + (b : Int)) / 2))),
        (det (fun k => v.ownBlock = some k ∨ w.heap.size ≤ k) 134 (.int .i64 (((a : Int) + (b : Int)) / 2))),
        (det (fun k => v.ownBlock = some k ∨ w.heap.size ≤ k) 18 (.int .i64 (((a : Int) + (b : Int)) / 2)))])
    [(iown EditE 42 (fun k => v.ownBlock = some k ∨ w.heap.size ≤ k) v (xs))] mixed st15 (by kernel_rfl) ⟨r0, trivial⟩
    ⟨Ob.det rfl rfl rfl (fun _ a_ _ _ c => r_move rfl (c.eo e1 (by kernel_rfl))),
       Ob.det rfl rfl rfl (fun _ a_ _ _ c => r_move rfl (c.eo e3 (by kernel_rfl))),
       Ob.det rfl rfl rfl (fun _ a_ _ _ c => r_add rfl (c.ev 0 rfl rfl) (c.ev 1 rfl rfl) (by omega)),
       Ob.det rfl rfl rfl (fun _ a_ _ _ c => r_convIn rfl Try.underlying3 Try.underlying50 (c.ev 2 rfl rfl) (by omega) (by omega) (by decide)),
       Ob.det rfl rfl rfl (fun _ a_ _ _ c => r_shr1 rfl (c.ev 3 rfl rfl) rfl),
       Ob.det rfl rfl rfl (fun _ a_ _ _ c => r_convIn rfl Try.underlying50 Try.underlying3 (c.ev 4 rfl rfl) (by omega) (by omega) (by decide)),
       Ob.det rfl rfl rfl (fun _ a_ _ _ c => r_assign rfl (c.ev 5 rfl rfl)),
     trivial⟩ ?_
  intro a29 w29 τ29 st29 f29
  replace e0 := f29.old e0 (by kernel_rfl)
  replace e1 := f29.old e1 (by kernel_rfl)
  replace e2 := f29.old e2 (by kernel_rfl)
  replace e3 := f29.old e3 (by kernel_rfl)
  replace e4 := f29.old e4 (by kernel_rfl)
  have e18 : get a29 18 = (.int .i64 (((a : Int) + (b : Int)) / 2)) := f29.v 6 rfl
  replace r0 : ownR EditE 42 (xs) (τ29 0) v w29 := f29.iown 0 rfl rfl
  clear f29
  obtain ⟨mid, hmid⟩ : ∃ x_ : Nat, ((a : Int) + (b : Int)) / 2 = (x_ : Int) := ⟨(a + b) / 2, by omega⟩
  replace e18 := e18.trans (int_eq hmid)
  show Code.wp _ _ _ a29 w29
  refine wp_seq ?_
  refine region_St (bf := [0, 0, 3, 7]) (sp := [
      (det (fun k => v.ownBlock = some k ∨ w.heap.size ≤ k) 135 (.int .i64 ((mid : Int)))),
        (det (fun k => v.ownBlock = some k ∨ w.heap.size ≤ k) 136 (.int .i64 ((m : Int)))),
        (det (fun k => v.ownBlock = some k ∨ w.heap.size ≤ k) 137 (.int .i64 ((mid : Int) + (m : Int)))),
        (det (fun k => v.ownBlock = some k ∨ w.heap.size ≤ k) 19 (.int .i64 ((mid : Int) + (m : Int))))])
    [(iown EditE 42 (fun k => v.ownBlock = some k ∨ w.heap.size ≤ k) v (xs))] mixed st29 (by kernel_rfl) ⟨r0, trivial⟩
    ⟨Ob.det rfl rfl rfl (fun _ a_ _ _ c => r_move rfl (c.eo e18 (by kernel_rfl))),
       Ob.det rfl rfl rfl (fun _ a_ _ _ c => r_move rfl (c.eo e2 (by kernel_rfl))),
       Ob.det rfl rfl rfl (fun _ a_ _ _ c => r_add rfl (c.ev 0 rfl rfl) (c.ev 1 rfl rfl) (by omega)),
       Ob.det rfl rfl rfl (fun _ a_ _ _ c => r_assign rfl (c.ev 2 rfl rfl)),
     trivial⟩ ?_
  intro a30 w30 τ30 st30 f30
  replace e0 := f30.old e0 (by kernel_rfl)
  replace e1 := f30.old e1 (by kernel_rfl)
  replace e2 := f30.old e2 (by kernel_rfl)
  replace e3 := f30.old e3 (by kernel_rfl)
  replace e4 := f30.old e4 (by kernel_rfl)
  replace e18 := f30.old e18 (by kernel_rfl)
  have e19 : get a30 19 = (.int .i64 ((mid : Int) + (m : Int))) := f30.v 3 rfl
  replace r0 : ownR EditE 42 (xs) (τ30 0) v w30 := f30.iown 0 rfl rfl
  clear f30
  show Code.wp _ _ _ a30 w30
  refine wp_seq ?_
  refine region_St (bf := [0, 1]) (sp := [
      (det (fun k => v.ownBlock = some k ∨ w.heap.size ≤ k) 20 (.int .i64 (0))),
        (det (fun k => v.ownBlock = some k ∨ w.heap.size ≤ k) 21 (.int .i64 (0)))])
    [(iown EditE 42 (fun k => v.ownBlock = some k ∨ w.heap.size ≤ k) v (xs))] mixed st30 (by kernel_rfl) ⟨r0, trivial⟩
    ⟨Ob.det rfl rfl rfl (fun _ a_ _ _ c => r_assign rfl rfl),
       Ob.det rfl rfl rfl (fun _ a_ _ _ c => r_assign rfl rfl),
     trivial⟩ ?_
  intro a31 w31 τ31 st31 f31
  replace e0 := f31.old e0 (by kernel_rfl)
  replace e1 := f31.old e1 (by kernel_rfl)
  replace e2 := f31.old e2 (by kernel_rfl)
  replace e3 := f31.old e3 (by kernel_rfl)
  replace e4 := f31.old e4 (by kernel_rfl)
  replace e18 := f31.old e18 (by kernel_rfl)
  replace e19 := f31.old e19 (by kernel_rfl)
  have e20 : get a31 20 = (.int .i64 (0)) := f31.v 0 rfl
  have e21 : get a31 21 = (.int .i64 (0)) := f31.v 1 rfl
  replace r0 : ownR EditE 42 (xs) (τ31 0) v w31 := f31.iown 0 rfl rfl
  clear f31
  show Code.wp _ _ _ a31 w31
  refine wp_seq ?_
  refine wp_seq ?_
  refine region_St (bf := [0, 0, 3]) (sp := [
      (det (fun k => v.ownBlock = some k ∨ w.heap.size ≤ k) 138 (.int .i64 ((m : Int)))),
        (det (fun k => v.ownBlock = some k ∨ w.heap.size ≤ k) 139 (.int .i64 ((mid : Int)))),
        (det (fun k => v.ownBlock = some k ∨ w.heap.size ≤ k) 140 (.bool (decide ((mid : Int) < (m : Int)))))])
    [(iown EditE 42 (fun k => v.ownBlock = some k ∨ w.heap.size ≤ k) v (xs))] mixed st31 (by kernel_rfl) ⟨r0, trivial⟩
    ⟨Ob.det rfl rfl rfl (fun _ a_ _ _ c => r_move rfl (c.eo e2 (by kernel_rfl))),
       Ob.det rfl rfl rfl (fun _ a_ _ _ c => r_move rfl (c.eo e18 (by kernel_rfl))),
       Ob.det rfl rfl rfl (fun _ a_ _ _ c => r_gtr rfl (c.ev 0 rfl rfl) (c.ev 1 rfl rfl)),
     trivial⟩ ?_
  intro a32 w32 τ32 st32 f32
  replace e0 := f32.old e0 (by kernel_rfl)
  replace e1 := f32.old e1 (by kernel_rfl)
  replace e2 := f32.old e2 (by kernel_rfl)
  replace e3 := f32.old e3 (by kernel_rfl)
  replace e4 := f32.old e4 (by kernel_rfl)
  replace e18 := f32.old e18 (by kernel_rfl)
  replace e19 := f32.old e19 (by kernel_rfl)
  replace e20 := f32.old e20 (by kernel_rfl)
  replace e21 := f32.old e21 (by kernel_rfl)
  have e140 : get a32 140 = (.bool (decide ((mid : Int) < (m : Int)))) := f32.v 2 rfl
  replace r0 : ownR EditE 42 (xs) (τ32 0) v w32 := f32.iown 0 rfl rfl
  clear f32
  show Code.wp _ _ _ a32 w32
  refine wp_cond_split (t := decide ((mid : Int) < (m : Int))) e140 (fun hc9 => ?_) (fun hc9 => ?_)
  · try simp only [Bool.and_eq_true, Bool.or_eq_true, decide_eq_true_eq, decide_eq_false_iff_not, Bool.not_eq_true', Bool.and_eq_false_iff, Bool.or_eq_false_iff, Bool.not_eq_false', Int.not_lt, Int.not_le, beq_iff_eq, selB] at hc9
    refine wp_seq ?_
    refine region_St (bf := [0, 0, 3, 7]) (sp := [
        (det (fun k => v.ownBlock = some k ∨ w.heap.size ≤ k) 141 (.int .i64 ((mid : Int) + (m : Int)))),
            (det (fun k => v.ownBlock = some k ∨ w.heap.size ≤ k) 142 (.int .i64 ((b : Int)))),
            (det (fun k => v.ownBlock = some k ∨ w.heap.size ≤ k) 143 (.int .i64 ((mid : Int) + (m : Int) - (b : Int)))),
            (det (fun k => v.ownBlock = some k ∨ w.heap.size ≤ k) 20 (.int .i64 ((mid : Int) + (m : Int) - (b : Int))))])
      [(iown EditE 42 (fun k => v.ownBlock = some k ∨ w.heap.size ≤ k) v (xs))] mixed st32 (by kernel_rfl) ⟨r0, trivial⟩
      ⟨Ob.det rfl rfl rfl (fun _ a_ _ _ c => r_move rfl (c.eo e19 (by kernel_rfl))),
           Ob.det rfl rfl rfl (fun _ a_ _ _ c => r_move rfl (c.eo e3 (by kernel_rfl))),
           Ob.det rfl rfl rfl (fun _ a_ _ _ c => r_sub rfl (c.ev 0 rfl rfl) (c.ev 1 rfl rfl) (by omega)),
           Ob.det rfl rfl rfl (fun _ a_ _ _ c => r_assign rfl (c.ev 2 rfl rfl)),
       trivial⟩ ?_
    intro a33 w33 τ33 st33 f33
    replace e0 := f33.old e0 (by kernel_rfl)
    replace e1 := f33.old e1 (by kernel_rfl)
    replace e2 := f33.old e2 (by kernel_rfl)
    replace e3 := f33.old e3 (by kernel_rfl)
    replace e4 := f33.old e4 (by kernel_rfl)
    replace e18 := f33.old e18 (by kernel_rfl)
    replace e19 := f33.old e19 (by kernel_rfl)
    have e20 : get a33 20 = (.int .i64 ((mid : Int) + (m : Int) - (b : Int))) := f33.v 3 rfl
    replace e21 := f33.old e21 (by kernel_rfl)
    replace r0 : ownR EditE 42 (xs) (τ33 0) v w33 := f33.iown 0 rfl rfl
    clear f33
    show Code.wp _ _ _ a33 w33
    refine region_St (bf := [0, 1]) (sp := [
        (det (fun k => v.ownBlock = some k ∨ w.heap.size ≤ k) 144 (.int .i64 ((mid : Int)))),
            (det (fun k => v.ownBlock = some k ∨ w.heap.size ≤ k) 21 (.int .i64 ((mid : Int))))])
      [(iown EditE 42 (fun k => v.ownBlock = some k ∨ w.heap.size ≤ k) v (xs))] mixed st33 (by kernel_rfl) ⟨r0, trivial⟩
      ⟨Ob.det rfl rfl rfl (fun _ a_ _ _ c => r_move rfl (c.eo e18 (by kernel_rfl))),
           Ob.det rfl rfl rfl (fun _ a_ _ _ c => r_assign rfl (c.ev 0 rfl rfl)),
       trivial⟩ ?_
    intro a34 w34 τ34 st34 f34
    replace e0 := f34.old e0 (by kernel_rfl)
    replace e1 := f34.old e1 (by kernel_rfl)
    replace e2 := f34.old e2 (by kernel_rfl)
    replace e3 := f34.old e3 (by kernel_rfl)
    replace e4 := f34.old e4 (by kernel_rfl)
    replace e18 := f34.old e18 (by kernel_rfl)
    replace e19 := f34.old e19 (by kernel_rfl)
    replace e20 := f34.old e20 (by kernel_rfl)
    have e21 : get a34 21 = (.int .i64 ((mid : Int))) := f34.v 1 rfl
    replace r0 : ownR EditE 42 (xs) (τ34 0) v w34 := f34.iown 0 rfl rfl
    clear f34
    show Code.wp _ _ _ a34 w34
    refine wp_seq ?_
    refine region_St (bf := [0, 1, 3]) (sp := [
        (det (fun k => v.ownBlock = some k ∨ w.heap.size ≤ k) 147 (.int .i64 ((mid : Int) + (m : Int)))),
            (det (fun k => v.ownBlock = some k ∨ w.heap.size ≤ k) 148 (.int .i64 ((mid : Int) + (m : Int) - 1))),
            (det (fun k => v.ownBlock = some k ∨ w.heap.size ≤ k) 22 (.int .i64 ((mid : Int) + (m : Int) - 1)))])
      [(iown EditE 42 (fun k => v.ownBlock = some k ∨ w.heap.size ≤ k) v (xs))] mixed st34 (by kernel_rfl) ⟨r0, trivial⟩
      ⟨Ob.det rfl rfl rfl (fun _ a_ _ _ c => r_move rfl (c.eo e19 (by kernel_rfl))),
           Ob.det rfl rfl rfl (fun _ a_ _ _ c => r_sub rfl (c.ev 0 rfl rfl) rfl (by omega)),
           Ob.det rfl rfl rfl (fun _ a_ _ _ c => r_assign rfl (c.ev 1 rfl rfl)),
       trivial⟩ ?_
    intro a35 w35 τ35 st35 f35
    replace e0 := f35.old e0 (by kernel_rfl)
    replace e1 := f35.old e1 (by kernel_rfl)
    replace e2 := f35.old e2 (by kernel_rfl)
    replace e3 := f35.old e3 (by kernel_rfl)
    replace e4 := f35.old e4 (by kernel_rfl)
    replace e18 := f35.old e18 (by kernel_rfl)
    replace e19 := f35.old e19 (by kernel_rfl)
    replace e20 := f35.old e20 (by kernel_rfl)
    replace e21 := f35.old e21 (by kernel_rfl)
    have e22 : get a35 22 = (.int .i64 ((mid : Int) + (m : Int) - 1)) := f35.v 2 rfl
    replace r0 : ownR EditE 42 (xs) (τ35 0) v w35 := f35.iown 0 rfl rfl
    clear f35
    show Code.wp _ _ _ a35 w35
    refine wp_seq ?_
    refine wp_block ?_
    refine wp_loop (fun a_ w_ => ∃ (s r : Nat) (τ : Nat → Foot), (mid + m ≤ s + b) ∧
            (s ≤ r) ∧
            (r ≤ mid) ∧
            (s + b = mid + m ∨ ltE (nth xs ((mid : Int) + (m : Int) - (s : Int))) (nth xs ((s : Int) - 1)) = false) ∧
            (r = mid ∨ ltE (nth xs ((mid : Int) + (m : Int) - 1 - (r : Int))) (nth xs (r : Int)) = true) ∧
            St (fun k => v.ownBlock = some k ∨ w.heap.size ≤ k) w 220 a_ w_ τ ∧
            get a_ 20 = (.int .i64 ((s : Int))) ∧
            get a_ 21 = (.int .i64 ((r : Int))) ∧
            get a_ 0 = v ∧
            get a_ 1 = (.int .i64 ((a : Int))) ∧
            get a_ 2 = (.int .i64 ((m : Int))) ∧
            get a_ 3 = (.int .i64 ((b : Int))) ∧
            get a_ 4 = (.func (.func 40) #[] #[]) ∧
            get a_ 18 = (.int .i64 ((mid : Int))) ∧
            get a_ 19 = (.int .i64 ((mid : Int) + (m : Int))) ∧
            get a_ 22 = (.int .i64 ((mid : Int) + (m : Int) - 1)) ∧
            ownR EditE 42 (xs) (τ 0) v w_) (fun a_ _ => (intOf (get a_ 21)).toNat - (intOf (get a_ 20)).toNat) ?_ ?_
    · refine ⟨mid + m - b, mid, τ35, ?_, ?_, ?_, ?_, ?_, st35, (e20.trans (int_eq (by omega))), (e21.trans (int_eq (by omega))), e0, e1, e2, e3, e4, e18, e19, e22, r0⟩
      · omega
      · omega
      · omega
      · left; omega
      · left; omega
    intro a36 w36 hI
    obtain ⟨s, r, τ36, q0, q1, q2, q3, q4, st36, e20, e21, e0, e1, e2, e3, e4, e18, e19, e22, r0⟩ := hI
    have m20 := e20
    have m21 := e21
    refine wp_seq ?_
    refine wp_seq ?_
    refine region_St (bf := [0, 0, 3]) (sp := [
        (det (fun k => v.ownBlock = some k ∨ w.heap.size ≤ k) 149 (.int .i64 ((s : Int)))),
            (det (fun k => v.ownBlock = some k ∨ w.heap.size ≤ k) 150 (.int .i64 ((r : Int)))),
            (det (fun k => v.ownBlock = some k ∨ w.heap.size ≤ k) 151 (.bool (decide ((s : Int) < (r : Int)))))])
      [(iown EditE 42 (fun k => v.ownBlock = some k ∨ w.heap.size ≤ k) v (xs))] mixed st36 (by kernel_rfl) ⟨r0, trivial⟩
      ⟨Ob.det rfl rfl rfl (fun _ a_ _ _ c => r_move rfl (c.eo e20 (by kernel_rfl))),
           Ob.det rfl rfl rfl (fun _ a_ _ _ c => r_move rfl (c.eo e21 (by kernel_rfl))),
           Ob.det rfl rfl rfl (fun _ a_ _ _ c => r_lss rfl (c.ev 0 rfl rfl) (c.ev 1 rfl rfl)),
       trivial⟩ ?_
    intro a37 w37 τ37 st37 f37
    replace e0 := f37.old e0 (by kernel_rfl)
    replace e1 := f37.old e1 (by kernel_rfl)
    replace e2 := f37.old e2 (by kernel_rfl)
    replace e3 := f37.old e3 (by kernel_rfl)
    replace e4 := f37.old e4 (by kernel_rfl)
    replace e18 := f37.old e18 (by kernel_rfl)
    replace e19 := f37.old e19 (by kernel_rfl)
    replace e20 := f37.old e20 (by kernel_rfl)
    replace e21 := f37.old e21 (by kernel_rfl)
    replace e22 := f37.old e22 (by kernel_rfl)
    have e151 : get a37 151 = (.bool (decide ((s : Int) < (r : Int)))) := f37.v 2 rfl
    replace r0 : ownR EditE 42 (xs) (τ37 0) v w37 := f37.iown 0 rfl rfl
    clear f37
    show Code.wp _ _ _ a37 w37
    refine wp_cond_split (t := decide ((s : Int) < (r : Int))) e151 (fun hc10 => ?_) (fun hc10 => ?_)
    · try simp only [Bool.and_eq_true, Bool.or_eq_true, decide_eq_true_eq, decide_eq_false_iff_not, Bool.not_eq_true', Bool.and_eq_false_iff, Bool.or_eq_false_iff, Bool.not_eq_false', Int.not_lt, Int.not_le, beq_iff_eq, selB] at hc10
      refine wp_skip ?_
      show Code.wp _ _ _ a37 w37
      refine wp_block ?_
      refine wp_seq ?_
      refine region_St (bf := [0, 0, 3, 7, 15, 31, 63]) (sp := [
          (det (fun k => v.ownBlock = some k ∨ w.heap.size ≤ k) 152 (.int .i64 ((s : Int)))),
                (det (fun k => v.ownBlock = some k ∨ w.heap.size ≤ k) 153 (.int .i64 ((r : Int)))),
                (det (fun k => v.ownBlock = some k ∨ w.heap.size ≤ k) 154 (.int .i64 ((s : Int) + (r : Int)))),
                (det (fun k => v.ownBlock = some k ∨ w.heap.size ≤ k) 155 (.int .u64 ((s : Int) + (r : Int)))),
                (det (fun k => v.ownBlock = some k ∨ w.heap.size ≤ k) 156 (.int .u64 (((s : Int) + (r : Int)) / 2))),
                (det (fun k => v.ownBlock = some k ∨ w.heap.size ≤ k) 157 (.int .i64 (((s : Int) + (r : Int)) / 2))),
                (det (fun k => v.ownBlock = some k ∨ w.heap.size ≤ k) 23 (.int .i64 (((s : Int) + (r : Int)) / 2)))])
        [(iown EditE 42 (fun k => v.ownBlock = some k ∨ w.heap.size ≤ k) v (xs))] mixed st37 (by kernel_rfl) ⟨r0, trivial⟩
        ⟨Ob.det rfl rfl rfl (fun _ a_ _ _ c => r_move rfl (c.eo e20 (by kernel_rfl))),
               Ob.det rfl rfl rfl (fun _ a_ _ _ c => r_move rfl (c.eo e21 (by kernel_rfl))),
               Ob.det rfl rfl rfl (fun _ a_ _ _ c => r_add rfl (c.ev 0 rfl rfl) (c.ev 1 rfl rfl) (by omega)),
               Ob.det rfl rfl rfl (fun _ a_ _ _ c => r_convIn rfl Try.underlying3 Try.underlying50 (c.ev 2 rfl rfl) (by omega) (by omega) (by decide)),
               Ob.det rfl rfl rfl (fun _ a_ _ _ c => r_shr1 rfl (c.ev 3 rfl rfl) rfl),
               Ob.det rfl rfl rfl (fun _ a_ _ _ c => r_convIn rfl Try.underlying50 Try.underlying3 (c.ev 4 rfl rfl) (by omega) (by omega) (by decide)),
               Ob.det rfl rfl rfl (fun _ a_ _ _ c => r_assign rfl (c.ev 5 rfl rfl)),
         trivial⟩ ?_
      intro a38 w38 τ38 st38 f38
      replace e0 := f38.old e0 (by kernel_rfl)
      replace e1 := f38.old e1 (by kernel_rfl)
      replace e2 := f38.old e2 (by kernel_rfl)
      replace e3 := f38.old e3 (by kernel_rfl)
      replace e4 := f38.old e4 (by kernel_rfl)
      replace e18 := f38.old e18 (by kernel_rfl)
      replace e19 := f38.old e19 (by kernel_rfl)
      replace e20 := f38.old e20 (by kernel_rfl)
      replace e21 := f38.old e21 (by kernel_rfl)
      replace e22 := f38.old e22 (by kernel_rfl)
      have e23 : get a38 23 = (.int .i64 (((s : Int) + (r : Int)) / 2)) := f38.v 6 rfl
      replace e151 := f38.old e151 (by kernel_rfl)
      replace r0 : ownR EditE 42 (xs) (τ38 0) v w38 := f38.iown 0 rfl rfl
      clear f38
      obtain ⟨cc, hcc⟩ : ∃ x_ : Nat, ((s : Int) + (r : Int)) / 2 = (x_ : Int) := ⟨(s + r) / 2, by omega⟩
      replace e23 := e23.trans (int_eq hcc)
      show Code.wp _ _ _ a38 w38
      refine wp_seq ?_
      refine region_St (bf := [0, 0, 0, 0, 12, 30, 62, 0, 0, 384, 896, 2047, 4095, 8191]) (sp := [
          (det (fun k => v.ownBlock = some k ∨ w.heap.size ≤ k) 158 (.func (.func 40) #[] #[])),
                (det (fun k => v.ownBlock = some k ∨ w.heap.size ≤ k) 159 v),
                (det (fun k => v.ownBlock = some k ∨ w.heap.size ≤ k) 160 (.int .i64 ((mid : Int) + (m : Int) - 1))),
                (det (fun k => v.ownBlock = some k ∨ w.heap.size ≤ k) 161 (.int .i64 ((cc : Int)))),
                (det (fun k => v.ownBlock = some k ∨ w.heap.size ≤ k) 162 (.int .i64 ((mid : Int) + (m : Int) - 1 - (cc : Int)))),
                (det (fun k => v.ownBlock = some k ∨ w.heap.size ≤ k) 163 (.pointer (some ((ptrOf v).add (((mid : Int) + (m : Int) - 1 - (cc : Int) : Int).toNat * 3))))),
                (det (fun k => v.ownBlock = some k ∨ w.heap.size ≤ k) 164 (.agg #[(.int .i64 ((nth xs ((mid : Int) + (m : Int) - 1 - (cc : Int))).1)), (.int .i64 ((nth xs ((mid : Int) + (m : Int) - 1 - (cc : Int))).2.1)), (.string ((nth xs ((mid : Int) + (m : Int) - 1 - (cc : Int))).2.2))])),
                (det (fun k => v.ownBlock = some k ∨ w.heap.size ≤ k) 165 v),
                (det (fun k => v.ownBlock = some k ∨ w.heap.size ≤ k) 166 (.int .i64 ((cc : Int)))),
                (det (fun k => v.ownBlock = some k ∨ w.heap.size ≤ k) 167 (.pointer (some ((ptrOf v).add (((cc : Int) : Int).toNat * 3))))),
                (det (fun k => v.ownBlock = some k ∨ w.heap.size ≤ k) 168 (.agg #[(.int .i64 ((nth xs ((cc : Int))).1)), (.int .i64 ((nth xs ((cc : Int))).2.1)), (.string ((nth xs ((cc : Int))).2.2))])),
                (det (fun k => v.ownBlock = some k ∨ w.heap.size ≤ k) 169 (.int .i64 (cmpE (nth xs ((mid : Int) + (m : Int) - 1 - (cc : Int))) (nth xs ((cc : Int)))))),
                (det (fun k => v.ownBlock = some k ∨ w.heap.size ≤ k) 170 (.bool (decide (cmpE (nth xs ((mid : Int) + (m : Int) - 1 - (cc : Int))) (nth xs ((cc : Int))) < 0)))),
                (det (fun k => v.ownBlock = some k ∨ w.heap.size ≤ k) 171 (.bool (!(decide (cmpE (nth xs ((mid : Int) + (m : Int) - 1 - (cc : Int))) (nth xs ((cc : Int))) < 0)))))])
        [(iown EditE 42 (fun k => v.ownBlock = some k ∨ w.heap.size ≤ k) v (xs))] mixed st38 (by kernel_rfl) ⟨r0, trivial⟩
        ⟨Ob.det rfl rfl rfl (fun _ a_ _ _ c => r_move rfl (c.eo e4 (by kernel_rfl))),
               Ob.det rfl rfl rfl (fun _ a_ _ _ c => r_move rfl (c.eo e0 (by kernel_rfl))),
               Ob.det rfl rfl rfl (fun _ a_ _ _ c => r_move rfl (c.eo e22 (by kernel_rfl))),
               Ob.det rfl rfl rfl (fun _ a_ _ _ c => r_move rfl (c.eo e23 (by kernel_rfl))),
               Ob.det rfl rfl rfl (fun _ a_ _ _ c => r_sub rfl (c.ev 2 rfl rfl) (c.ev 3 rfl rfl) (by omega)),
               Ob.det rfl rfl rfl (fun _ a_ _ _ c => r_indexAddr rfl Try.underlying37 Try.sizeOf42 (c.ev 1 rfl rfl) r0.isSl (c.ev 4 rfl rfl) (by omega) (by omega)),
               Ob.det rfl rfl rfl (fun _ a_ _ _ c => r_loadN (vs := [(.int .i64 ((nth xs ((mid : Int) + (m : Int) - 1 - (cc : Int))).1)), (.int .i64 ((nth xs ((mid : Int) + (m : Int) - 1 - (cc : Int))).2.1)), (.string ((nth xs ((mid : Int) + (m : Int) - 1 - (cc : Int))).2.2))]) rfl Try.isAgg42 Try.sizeOf42 (c.ev 5 rfl rfl) rfl (fun _ _ hj => ((c.iown 0 rfl rfl (by kernel_rfl)).1.sl).elem (nth_some (by omega) (by omega)) hj)),
               Ob.det rfl rfl rfl (fun _ a_ _ _ c => r_move rfl (c.eo e0 (by kernel_rfl))),
               Ob.det rfl rfl rfl (fun _ a_ _ _ c => r_move rfl (c.eo e23 (by kernel_rfl))),
               Ob.det rfl rfl rfl (fun _ a_ _ _ c => r_indexAddr rfl Try.underlying37 Try.sizeOf42 (c.ev 7 rfl rfl) r0.isSl (c.ev 8 rfl rfl) (by omega) (by omega)),
               Ob.det rfl rfl rfl (fun _ a_ _ _ c => r_loadN (vs := [(.int .i64 ((nth xs ((cc : Int))).1)), (.int .i64 ((nth xs ((cc : Int))).2.1)), (.string ((nth xs ((cc : Int))).2.2))]) rfl Try.isAgg42 Try.sizeOf42 (c.ev 9 rfl rfl) rfl (fun _ _ hj => ((c.iown 0 rfl rfl (by kernel_rfl)).1.sl).elem (nth_some (by omega) (by omega)) hj)),
               Ob.call rfl rfl rfl (fun _ a_ _ _ c => ⟨_, _, (e_call2 rfl (c.ev 0 rfl rfl) Try.call40 (c.ev 6 rfl rfl) (c.ev 10 rfl rfl)), cmpE_c (nth xs ((mid : Int) + (m : Int) - 1 - (cc : Int))) (nth xs ((cc : Int))) _⟩),
               Ob.det rfl rfl rfl (fun _ a_ _ _ c => r_lss rfl (c.ev 11 rfl rfl) rfl),
               Ob.det rfl rfl rfl (fun _ a_ _ _ c => r_not rfl (c.ev 12 rfl rfl)),
         trivial⟩ ?_
      intro a39 w39 τ39 st39 f39
      replace e0 := f39.old e0 (by kernel_rfl)
      replace e1 := f39.old e1 (by kernel_rfl)
      replace e2 := f39.old e2 (by kernel_rfl)
      replace e3 := f39.old e3 (by kernel_rfl)
      replace e4 := f39.old e4 (by kernel_rfl)
      replace e18 := f39.old e18 (by kernel_rfl)
      replace e19 := f39.old e19 (by kernel_rfl)
      replace e20 := f39.old e20 (by kernel_rfl)
      replace e21 := f39.old e21 (by kernel_rfl)
      replace e22 := f39.old e22 (by kernel_rfl)
      replace e23 := f39.old e23 (by kernel_rfl)
      replace e151 := f39.old e151 (by kernel_rfl)
      have e171 : get a39 171 = (.bool (!(decide (cmpE (nth xs ((mid : Int) + (m : Int) - 1 - (cc : Int))) (nth xs ((cc : Int))) < 0)))) := f39.v 13 rfl
      replace r0 : ownR EditE 42 (xs) (τ39 0) v w39 := f39.iown 0 rfl rfl
      clear f39
      show Code.wp _ _ _ a39 w39
      refine wp_cond_split (t := !(decide (cmpE (nth xs ((mid : Int) + (m : Int) - 1 - (cc : Int))) (nth xs ((cc : Int))) < 0))) e171 (fun hc11 => ?_) (fun hc11 => ?_)
      · try simp only [Bool.and_eq_true, Bool.or_eq_true, decide_eq_true_eq, decide_eq_false_iff_not, Bool.not_eq_true', Bool.and_eq_false_iff, Bool.or_eq_false_iff, Bool.not_eq_false', Int.not_lt, Int.not_le, beq_iff_eq, selB] at hc11
        refine region_St (bf := [0, 1, 3]) (sp := [
            (det (fun k => v.ownBlock = some k ∨ w.heap.size ≤ k) 172 (.int .i64 ((cc : Int)))),
                    (det (fun k => v.ownBlock = some k ∨ w.heap.size ≤ k) 173 (.int .i64 ((cc : Int) + 1))),
                    (det (fun k => v.ownBlock = some k ∨ w.heap.size ≤ k) 20 (.int .i64 ((cc : Int) + 1)))])
          [(iown EditE 42 (fun k => v.ownBlock = some k ∨ w.heap.size ≤ k) v (xs))] mixed st39 (by kernel_rfl) ⟨r0, trivial⟩
          ⟨Ob.det rfl rfl rfl (fun _ a_ _ _ c => r_move rfl (c.eo e23 (by kernel_rfl))),
                   Ob.det rfl rfl rfl (fun _ a_ _ _ c => r_add rfl (c.ev 0 rfl rfl) rfl (by omega)),
                   Ob.det rfl rfl rfl (fun _ a_ _ _ c => r_assign rfl (c.ev 1 rfl rfl)),
           trivial⟩ ?_
        intro a40 w40 τ40 st40 f40
        replace e0 := f40.old e0 (by kernel_rfl)
        replace e1 := f40.old e1 (by kernel_rfl)
        replace e2 := f40.old e2 (by kernel_rfl)
        replace e3 := f40.old e3 (by kernel_rfl)
        replace e4 := f40.old e4 (by kernel_rfl)
        replace e18 := f40.old e18 (by kernel_rfl)
        replace e19 := f40.old e19 (by kernel_rfl)
        have e20 : get a40 20 = (.int .i64 ((cc : Int) + 1)) := f40.v 2 rfl
        replace e21 := f40.old e21 (by kernel_rfl)
        replace e22 := f40.old e22 (by kernel_rfl)
        replace e23 := f40.old e23 (by kernel_rfl)
        replace e151 := f40.old e151 (by kernel_rfl)
        replace e171 := f40.old e171 (by kernel_rfl)
        replace r0 : ownR EditE 42 (xs) (τ40 0) v w40 := f40.iown 0 rfl rfl
        clear f40
        show _
        refine ⟨⟨cc + 1, r, τ40, ?_, ?_, ?_, ?_, ?_, st40, (e20.trans (int_eq (by omega))), (e21.trans (int_eq (by omega))), e0, e1, e2, e3, e4, e18, e19, e22, r0⟩, ?_⟩
        · omega
        · omega
        · omega
        · first | exact q3 | (right; rw [show (mid : Int) + (m : Int) - (((cc + 1 : Nat) : Int)) = (mid : Int) + (m : Int) - 1 - (cc : Int) by omega, show (((cc + 1 : Nat) : Int) - 1) = (cc : Int) by omega]; exact (by simp only [ltE, decide_eq_false_iff_not, Int.not_lt]; assumption))
        · first | exact q4 | (right; exact (by simp only [ltE, decide_eq_true_eq]; assumption))
        · simp only [m20, m21, e20, e21, intOf]; omega
      try simp only [Bool.and_eq_true, Bool.or_eq_true, decide_eq_true_eq, decide_eq_false_iff_not, Bool.not_eq_true', Bool.and_eq_false_iff, Bool.or_eq_false_iff, Bool.not_eq_false', Int.not_lt, Int.not_le, beq_iff_eq, selB] at hc11
      refine region_St (bf := [0, 1]) (sp := [
          (det (fun k => v.ownBlock = some k ∨ w.heap.size ≤ k) 174 (.int .i64 ((cc : Int)))),
                (det (fun k => v.ownBlock = some k ∨ w.heap.size ≤ k) 21 (.int .i64 ((cc : Int))))])
        [(iown EditE 42 (fun k => v.ownBlock = some k ∨ w.heap.size ≤ k) v (xs))] mixed st39 (by kernel_rfl) ⟨r0, trivial⟩
        ⟨Ob.det rfl rfl rfl (fun _ a_ _ _ c => r_move rfl (c.eo e23 (by kernel_rfl))),
               Ob.det rfl rfl rfl (fun _ a_ _ _ c => r_assign rfl (c.ev 0 rfl rfl)),
         trivial⟩ ?_
      intro a41 w41 τ41 st41 f41
      replace e0 := f41.old e0 (by kernel_rfl)
      replace e1 := f41.old e1 (by kernel_rfl)
      replace e2 := f41.old e2 (by kernel_rfl)
      replace e3 := f41.old e3 (by kernel_rfl)
      replace e4 := f41.old e4 (by kernel_rfl)
      replace e18 := f41.old e18 (by kernel_rfl)
      replace e19 := f41.old e19 (by kernel_rfl)
      replace e20 := f41.old e20 (by kernel_rfl)
      have e21 : get a41 21 = (.int .i64 ((cc : Int))) := f41.v 1 rfl
      replace e22 := f41.old e22 (by kernel_rfl)
      replace e23 := f41.old e23 (by kernel_rfl)
      replace e151 := f41.old e151 (by kernel_rfl)
      replace e171 := f41.old e171 (by kernel_rfl)
      replace r0 : ownR EditE 42 (xs) (τ41 0) v w41 := f41.iown 0 rfl rfl
      clear f41
      show _
      refine ⟨⟨s, cc, τ41, ?_, ?_, ?_, ?_, ?_, st41, (e20.trans (int_eq (by omega))), (e21.trans (int_eq (by omega))), e0, e1, e2, e3, e4, e18, e19, e22, r0⟩, ?_⟩
      · omega
      · omega
      · omega
      · first | exact q3 | (right; rw [show (mid : Int) + (m : Int) - (((cc + 1 : Nat) : Int)) = (mid : Int) + (m : Int) - 1 - (cc : Int) by omega, show (((cc + 1 : Nat) : Int) - 1) = (cc : Int) by omega]; exact (by simp only [ltE, decide_eq_false_iff_not, Int.not_lt]; assumption))
      · first | exact q4 | (right; exact (by simp only [ltE, decide_eq_true_eq]; assumption))
      · simp only [m20, m21, e20, e21, intOf]; omega
    try simp only [Bool.and_eq_true, Bool.or_eq_true, decide_eq_true_eq, decide_eq_false_iff_not, Bool.not_eq_true', Bool.and_eq_false_iff, Bool.or_eq_false_iff, Bool.not_eq_false', Int.not_lt, Int.not_le, beq_iff_eq, selB] at hc10
    refine wp_exit ?_
    repeat (with_reducible refine then_exit ?_)
    refine exit_here ?_
    show Code.wp _ _ _ a37 w37
    refine wp_seq ?_
    refine region_St (bf := [0, 0, 3, 7]) (sp := [
        (det (fun k => v.ownBlock = some k ∨ w.heap.size ≤ k) 175 (.int .i64 ((mid : Int) + (m : Int)))),
            (det (fun k => v.ownBlock = some k ∨ w.heap.size ≤ k) 176 (.int .i64 ((s : Int)))),
            (det (fun k => v.ownBlock = some k ∨ w.heap.size ≤ k) 177 (.int .i64 ((mid : Int) + (m : Int) - (s : Int)))),
            (det (fun k => v.ownBlock = some k ∨ w.heap.size ≤ k) 24 (.int .i64 ((mid : Int) + (m : Int) - (s : Int))))])
      [(iown EditE 42 (fun k => v.ownBlock = some k ∨ w.heap.size ≤ k) v (xs))] mixed st37 (by kernel_rfl) ⟨r0, trivial⟩
      ⟨Ob.det rfl rfl rfl (fun _ a_ _ _ c => r_move rfl (c.eo e19 (by kernel_rfl))),
           Ob.det rfl rfl rfl (fun _ a_ _ _ c => r_move rfl (c.eo e20 (by kernel_rfl))),
           Ob.det rfl rfl rfl (fun _ a_ _ _ c => r_sub rfl (c.ev 0 rfl rfl) (c.ev 1 rfl rfl) (by omega)),
           Ob.det rfl rfl rfl (fun _ a_ _ _ c => r_assign rfl (c.ev 2 rfl rfl)),
       trivial⟩ ?_
    intro a42 w42 τ42 st42 f42
    replace e0 := f42.old e0 (by kernel_rfl)
    replace e1 := f42.old e1 (by kernel_rfl)
    replace e2 := f42.old e2 (by kernel_rfl)
    replace e3 := f42.old e3 (by kernel_rfl)
    replace e4 := f42.old e4 (by kernel_rfl)
    replace e18 := f42.old e18 (by kernel_rfl)
    replace e20 := f42.old e20 (by kernel_rfl)
    have e24 : get a42 24 = (.int .i64 ((mid : Int) + (m : Int) - (s : Int))) := f42.v 3 rfl
    replace r0 : ownR EditE 42 (xs) (τ42 0) v w42 := f42.iown 0 rfl rfl
    clear f42
    obtain rfl : s = r := by omega
    obtain ⟨e, he⟩ : ∃ x_ : Nat, (mid : Int) + (m : Int) - (s : Int) = (x_ : Int) := ⟨mid + m - s, by omega⟩
    replace e24 := e24.trans (int_eq he)
    have hA : a ≤ s := by omega
    have hB : s ≤ m := by omega
    have hC : m ≤ e := by omega
    have hD : e ≤ b := by omega
    have hR : s + e = mid + m := by omega
    have hC1 : s = a ∨ e = b ∨ ltE (nth xs (e : Int)) (nth xs ((s : Int) - 1)) = false := by
      rcases q3 with h_ | h_
      · first | (left; omega) | (right; left; omega)
      · right; right; rw [← he]; exact h_
    have hC2 : s = m ∨ e = m ∨ ltE (nth xs ((e : Int) - 1)) (nth xs (s : Int)) = true := by
      rcases q4 with h_ | h_
      · first | (left; omega) | (right; left; omega)
      · right; right; rw [show (e : Int) - 1 = (mid : Int) + (m : Int) - 1 - (s : Int) by omega]; exact h_
    show Code.wp _ _ _ a42 w42
    refine wp_seq ?_
    refine wp_seq ?_
    refine region_St (bf := [0, 0, 3, 7, 15, 15, 63, 127]) (sp := [
        (det (fun k => v.ownBlock = some k ∨ w.heap.size ≤ k) 178 (.int .i64 ((s : Int)))),
            (det (fun k => v.ownBlock = some k ∨ w.heap.size ≤ k) 179 (.int .i64 ((m : Int)))),
            (det (fun k => v.ownBlock = some k ∨ w.heap.size ≤ k) 180 (.bool (decide ((s : Int) < (m : Int))))),
            (det (fun k => v.ownBlock = some k ∨ w.heap.size ≤ k) 181 (.bool (decide ((s : Int) < (m : Int))))),
            (gdet (fun k => v.ownBlock = some k ∨ w.heap.size ≤ k) 182 ((decide ((s : Int) < (m : Int))) = true) (.int .i64 ((m : Int)))),
            (gdet (fun k => v.ownBlock = some k ∨ w.heap.size ≤ k) 183 ((decide ((s : Int) < (m : Int))) = true) (.int .i64 ((e : Int)))),
            (gdet (fun k => v.ownBlock = some k ∨ w.heap.size ≤ k) 184 ((decide ((s : Int) < (m : Int))) = true) (.bool (decide ((m : Int) < (e : Int))))),
            (det (fun k => v.ownBlock = some k ∨ w.heap.size ≤ k) 185 (.bool ((decide ((s : Int) < (m : Int))) && (decide ((m : Int) < (e : Int))))))])
      [(iown EditE 42 (fun k => v.ownBlock = some k ∨ w.heap.size ≤ k) v (xs))] mixed st42 (by kernel_rfl) ⟨r0, trivial⟩
      ⟨Ob.det rfl rfl rfl (fun _ a_ _ _ c => r_move rfl (c.eo e20 (by kernel_rfl))),
           Ob.det rfl rfl rfl (fun _ a_ _ _ c => r_move rfl (c.eo e2 (by kernel_rfl))),
           Ob.det rfl rfl rfl (fun _ a_ _ _ c => r_lss rfl (c.ev 0 rfl rfl) (c.ev 1 rfl rfl)),
           Ob.det rfl rfl rfl (fun _ a_ _ _ c => r_move rfl (c.ev 2 rfl rfl)),
           Ob.gdet rfl rfl rfl rfl (gi := 3) (tg := 181) rfl rfl Iff.rfl (fun _ a_ _ _ c hpc => r_move rfl (c.eo e2 (by kernel_rfl))),
           Ob.gdet rfl rfl rfl rfl (gi := 3) (tg := 181) rfl rfl Iff.rfl (fun _ a_ _ _ c hpc => r_move rfl (c.eo e24 (by kernel_rfl))),
           Ob.gdet rfl rfl rfl rfl (gi := 3) (tg := 181) rfl rfl Iff.rfl (fun _ a_ _ _ c hpc => r_lss rfl (c.eg 4 rfl rfl hpc) (c.eg 5 rfl rfl hpc)),
           Ob.det rfl rfl rfl (fun _ a_ _ _ c => r_and rfl (c.ev 3 rfl rfl) (fun h => (c.eg 6 rfl rfl h))),
       trivial⟩ ?_
    intro a43 w43 τ43 st43 f43
    replace e0 := f43.old e0 (by kernel_rfl)
    replace e1 := f43.old e1 (by kernel_rfl)
    replace e2 := f43.old e2 (by kernel_rfl)
    replace e3 := f43.old e3 (by kernel_rfl)
    replace e4 := f43.old e4 (by kernel_rfl)
    replace e18 := f43.old e18 (by kernel_rfl)
    replace e20 := f43.old e20 (by kernel_rfl)
    replace e24 := f43.old e24 (by kernel_rfl)
    have e185 : get a43 185 = (.bool ((decide ((s : Int) < (m : Int))) && (decide ((m : Int) < (e : Int))))) := f43.v 7 rfl
    replace r0 : ownR EditE 42 (xs) (τ43 0) v w43 := f43.iown 0 rfl rfl
    clear f43
    show Code.wp _ _ _ a43 w43
    refine wp_cond_split (t := (decide ((s : Int) < (m : Int))) && (decide ((m : Int) < (e : Int)))) e185 (fun hc12 => ?_) (fun hc12 => ?_)
    · try simp only [Bool.and_eq_true, Bool.or_eq_true, decide_eq_true_eq, decide_eq_false_iff_not, Bool.not_eq_true', Bool.and_eq_false_iff, Bool.or_eq_false_iff, Bool.not_eq_false', Int.not_lt, Int.not_le, beq_iff_eq, selB] at hc12
      refine region_St (bf := [0, 0, 0, 0, 0, 31]) (sp := [
          (det (fun k => v.ownBlock = some k ∨ w.heap.size ≤ k) 186 v),
                (det (fun k => v.ownBlock = some k ∨ w.heap.size ≤ k) 187 (.int .i64 ((s : Int)))),
                (det (fun k => v.ownBlock = some k ∨ w.heap.size ≤ k) 188 (.int .i64 ((m : Int)))),
                (det (fun k => v.ownBlock = some k ∨ w.heap.size ≤ k) 189 (.int .i64 ((e : Int)))),
                (det (fun k => v.ownBlock = some k ∨ w.heap.size ≤ k) 190 (.func (.func 40) #[] #[])),
                (own EditE 42 (fun k => v.ownBlock = some k ∨ w.heap.size ≤ k) 0 0 (rotF xs (s : Int).toNat (m : Int).toNat (e : Int).toNat))])
        [(iown EditE 42 (fun k => v.ownBlock = some k ∨ w.heap.size ≤ k) v (xs))] mixed st43 (by kernel_rfl) ⟨r0, trivial⟩
        ⟨Ob.det rfl rfl rfl (fun _ a_ _ _ c => r_move rfl (c.eo e0 (by kernel_rfl))),
               Ob.det rfl rfl rfl (fun _ a_ _ _ c => r_move rfl (c.eo e20 (by kernel_rfl))),
               Ob.det rfl rfl rfl (fun _ a_ _ _ c => r_move rfl (c.eo e2 (by kernel_rfl))),
               Ob.det rfl rfl rfl (fun _ a_ _ _ c => r_move rfl (c.eo e24 (by kernel_rfl))),
               Ob.det rfl rfl rfl (fun _ a_ _ _ c => r_move rfl (c.eo e4 (by kernel_rfl))),
               Ob.callIn rfl rfl rfl (by decide) (fun _ a_ _ _ c => ⟨_, _, (e_call5 rfl rfl Try.call48 (c.ev 0 rfl rfl) (c.ev 1 rfl rfl) (c.ev 2 rfl rfl) (c.ev 3 rfl rfl) (c.ev 4 rfl rfl)), c.old e0 (by kernel_rfl), c.iown 0 rfl rfl (by kernel_rfl), fun ho_ => editRot_c v xs (s : Int) (m : Int) (e : Int) _ ho_ (by omega) (by omega) (by omega) (by omega)⟩),
         trivial⟩ ?_
      intro a44 w44 τ44 st44 f44
      replace e0 := f44.old e0 (by kernel_rfl)
      replace e1 := f44.old e1 (by kernel_rfl)
      replace e3 := f44.old e3 (by kernel_rfl)
      replace e4 := f44.old e4 (by kernel_rfl)
      replace e18 := f44.old e18 (by kernel_rfl)
      replace e20 := f44.old e20 (by kernel_rfl)
      replace e24 := f44.old e24 (by kernel_rfl)
      have r0 : ownR EditE 42 (rotF xs (s : Int).toNat (m : Int).toNat (e : Int).toNat) (τ44 0) v w44 := f44.rown 5 rfl rfl e0
      clear f44
      show Code.wp _ _ _ a44 w44
      refine wp_seq ?_
      refine wp_seq ?_
      refine region_St (bf := [0, 0, 3, 7, 15, 15, 63, 127]) (sp := [
          (det (fun k => v.ownBlock = some k ∨ w.heap.size ≤ k) 192 (.int .i64 ((a : Int)))),
                (det (fun k => v.ownBlock = some k ∨ w.heap.size ≤ k) 193 (.int .i64 ((s : Int)))),
                (det (fun k => v.ownBlock = some k ∨ w.heap.size ≤ k) 194 (.bool (decide ((a : Int) < (s : Int))))),
                (det (fun k => v.ownBlock = some k ∨ w.heap.size ≤ k) 195 (.bool (decide ((a : Int) < (s : Int))))),
                (gdet (fun k => v.ownBlock = some k ∨ w.heap.size ≤ k) 196 ((decide ((a : Int) < (s : Int))) = true) (.int .i64 ((s : Int)))),
                (gdet (fun k => v.ownBlock = some k ∨ w.heap.size ≤ k) 197 ((decide ((a : Int) < (s : Int))) = true) (.int .i64 ((mid : Int)))),
                (gdet (fun k => v.ownBlock = some k ∨ w.heap.size ≤ k) 198 ((decide ((a : Int) < (s : Int))) = true) (.bool (decide ((s : Int) < (mid : Int))))),
                (det (fun k => v.ownBlock = some k ∨ w.heap.size ≤ k) 199 (.bool ((decide ((a : Int) < (s : Int))) && (decide ((s : Int) < (mid : Int))))))])
        [(iown EditE 42 (fun k => v.ownBlock = some k ∨ w.heap.size ≤ k) v (rotF xs (s : Int).toNat (m : Int).toNat (e : Int).toNat))] mixed st44 (by kernel_rfl) ⟨r0, trivial⟩
        ⟨Ob.det rfl rfl rfl (fun _ a_ _ _ c => r_move rfl (c.eo e1 (by kernel_rfl))),
               Ob.det rfl rfl rfl (fun _ a_ _ _ c => r_move rfl (c.eo e20 (by kernel_rfl))),
               Ob.det rfl rfl rfl (fun _ a_ _ _ c => r_lss rfl (c.ev 0 rfl rfl) (c.ev 1 rfl rfl)),
               Ob.det rfl rfl rfl (fun _ a_ _ _ c => r_move rfl (c.ev 2 rfl rfl)),
               Ob.gdet rfl rfl rfl rfl (gi := 3) (tg := 195) rfl rfl Iff.rfl (fun _ a_ _ _ c hpc => r_move rfl (c.eo e20 (by kernel_rfl))),
               Ob.gdet rfl rfl rfl rfl (gi := 3) (tg := 195) rfl rfl Iff.rfl (fun _ a_ _ _ c hpc => r_move rfl (c.eo e18 (by kernel_rfl))),
               Ob.gdet rfl rfl rfl rfl (gi := 3) (tg := 195) rfl rfl Iff.rfl (fun _ a_ _ _ c hpc => r_lss rfl (c.eg 4 rfl rfl hpc) (c.eg 5 rfl rfl hpc)),
               Ob.det rfl rfl rfl (fun _ a_ _ _ c => r_and rfl (c.ev 3 rfl rfl) (fun h => (c.eg 6 rfl rfl h))),
         trivial⟩ ?_
      intro a45 w45 τ45 st45 f45
      replace e0 := f45.old e0 (by kernel_rfl)
      replace e1 := f45.old e1 (by kernel_rfl)
      replace e3 := f45.old e3 (by kernel_rfl)
      replace e4 := f45.old e4 (by kernel_rfl)
      replace e18 := f45.old e18 (by kernel_rfl)
      replace e20 := f45.old e20 (by kernel_rfl)
      replace e24 := f45.old e24 (by kernel_rfl)
      have e199 : get a45 199 = (.bool ((decide ((a : Int) < (s : Int))) && (decide ((s : Int) < (mid : Int))))) := f45.v 7 rfl
      replace r0 : ownR EditE 42 (rotF xs (s : Int).toNat (m : Int).toNat (e : Int).toNat) (τ45 0) v w45 := f45.iown 0 rfl rfl
      clear f45
      show Code.wp _ _ _ a45 w45
      refine wp_cond_split (t := (decide ((a : Int) < (s : Int))) && (decide ((s : Int) < (mid : Int)))) e199 (fun hc13 => ?_) (fun hc13 => ?_)
      · try simp only [Bool.and_eq_true, Bool.or_eq_true, decide_eq_true_eq, decide_eq_false_iff_not, Bool.not_eq_true', Bool.and_eq_false_iff, Bool.or_eq_false_iff, Bool.not_eq_false', Int.not_lt, Int.not_le, beq_iff_eq, selB] at hc13
        refine region_St (bf := [0, 0, 0, 0, 0, 31]) (sp := [
            (det (fun k => v.ownBlock = some k ∨ w.heap.size ≤ k) 200 v),
                    (det (fun k => v.ownBlock = some k ∨ w.heap.size ≤ k) 201 (.int .i64 ((a : Int)))),
                    (det (fun k => v.ownBlock = some k ∨ w.heap.size ≤ k) 202 (.int .i64 ((s : Int)))),
                    (det (fun k => v.ownBlock = some k ∨ w.heap.size ≤ k) 203 (.int .i64 ((mid : Int)))),
                    (det (fun k => v.ownBlock = some k ∨ w.heap.size ≤ k) 204 (.func (.func 40) #[] #[])),
                    (own EditE 42 (fun k => v.ownBlock = some k ∨ w.heap.size ≤ k) 0 0 (mF ltE (rotF xs (s : Int).toNat (m : Int).toNat (e : Int).toNat) a s mid))])
          [(iown EditE 42 (fun k => v.ownBlock = some k ∨ w.heap.size ≤ k) v (rotF xs (s : Int).toNat (m : Int).toNat (e : Int).toNat))] mixed st45 (by kernel_rfl) ⟨r0, trivial⟩
          ⟨Ob.det rfl rfl rfl (fun _ a_ _ _ c => r_move rfl (c.eo e0 (by kernel_rfl))),
                   Ob.det rfl rfl rfl (fun _ a_ _ _ c => r_move rfl (c.eo e1 (by kernel_rfl))),
                   Ob.det rfl rfl rfl (fun _ a_ _ _ c => r_move rfl (c.eo e20 (by kernel_rfl))),
                   Ob.det rfl rfl rfl (fun _ a_ _ _ c => r_move rfl (c.eo e18 (by kernel_rfl))),
                   Ob.det rfl rfl rfl (fun _ a_ _ _ c => r_move rfl (c.eo e4 (by kernel_rfl))),
                   Ob.callIn rfl rfl rfl (by decide) (fun _ a_ _ _ c => ⟨_, _, (e_call5 rfl rfl Try.call46 (c.ev 0 rfl rfl) (c.ev 1 rfl rfl) (c.ev 2 rfl rfl) (c.ev 3 rfl rfl) (c.ev 4 rfl rfl)), c.old e0 (by kernel_rfl), c.iown 0 rfl rfl (by kernel_rfl), fun ho_ => ih v (rotF xs (s : Int).toNat (m : Int).toNat (e : Int).toNat) a s mid _ ho_ (by omega) (by omega) (by (try rw [mF_len (by omega) (by omega) (by (try rw [rotF_len (by omega) (by omega) (by omega)]); omega)]); (try rw [rotF_len (by omega) (by omega) (by omega)]); omega) (by (try rw [mF_len (by omega) (by omega) (by (try rw [rotF_len (by omega) (by omega) (by omega)]); omega)]); (try rw [rotF_len (by omega) (by omega) (by omega)]); omega) (by omega) (sym_pre1 hS1 hS2 hA hB hC hD h3 hR (ys := rotF xs (s : Int).toNat (m : Int).toNat (e : Int).toNat) (by first | rfl | exact (rotF_triv (by omega) (by omega) (by omega)).symm)).1 (sym_pre1 hS1 hS2 hA hB hC hD h3 hR (ys := rotF xs (s : Int).toNat (m : Int).toNat (e : Int).toNat) (by first | rfl | exact (rotF_triv (by omega) (by omega) (by omega)).symm)).2⟩),
           trivial⟩ ?_
        intro a46 w46 τ46 st46 f46
        replace e0 := f46.old e0 (by kernel_rfl)
        replace e3 := f46.old e3 (by kernel_rfl)
        replace e4 := f46.old e4 (by kernel_rfl)
        replace e18 := f46.old e18 (by kernel_rfl)
        replace e24 := f46.old e24 (by kernel_rfl)
        have r0 : ownR EditE 42 (mF ltE (rotF xs (s : Int).toNat (m : Int).toNat (e : Int).toNat) a s mid) (τ46 0) v w46 := f46.rown 5 rfl rfl e0
        clear f46
        show Code.wp _ _ _ a46 w46
        refine wp_seq ?_
        refine region_St (bf := [0, 0, 3, 7, 15, 15, 63, 127]) (sp := [
            (det (fun k => v.ownBlock = some k ∨ w.heap.size ≤ k) 206 (.int .i64 ((mid : Int)))),
                    (det (fun k => v.ownBlock = some k ∨ w.heap.size ≤ k) 207 (.int .i64 ((e : Int)))),
                    (det (fun k => v.ownBlock = some k ∨ w.heap.size ≤ k) 208 (.bool (decide ((mid : Int) < (e : Int))))),
                    (det (fun k => v.ownBlock = some k ∨ w.heap.size ≤ k) 209 (.bool (decide ((mid : Int) < (e : Int))))),
                    (gdet (fun k => v.ownBlock = some k ∨ w.heap.size ≤ k) 210 ((decide ((mid : Int) < (e : Int))) = true) (.int .i64 ((e : Int)))),
                    (gdet (fun k => v.ownBlock = some k ∨ w.heap.size ≤ k) 211 ((decide ((mid : Int) < (e : Int))) = true) (.int .i64 ((b : Int)))),
                    (gdet (fun k => v.ownBlock = some k ∨ w.heap.size ≤ k) 212 ((decide ((mid : Int) < (e : Int))) = true) (.bool (decide ((e : Int) < (b : Int))))),
                    (det (fun k => v.ownBlock = some k ∨ w.heap.size ≤ k) 213 (.bool ((decide ((mid : Int) < (e : Int))) && (decide ((e : Int) < (b : Int))))))])
          [(iown EditE 42 (fun k => v.ownBlock = some k ∨ w.heap.size ≤ k) v (mF ltE (rotF xs (s : Int).toNat (m : Int).toNat (e : Int).toNat) a s mid))] mixed st46 (by kernel_rfl) ⟨r0, trivial⟩
          ⟨Ob.det rfl rfl rfl (fun _ a_ _ _ c => r_move rfl (c.eo e18 (by kernel_rfl))),
                   Ob.det rfl rfl rfl (fun _ a_ _ _ c => r_move rfl (c.eo e24 (by kernel_rfl))),
                   Ob.det rfl rfl rfl (fun _ a_ _ _ c => r_lss rfl (c.ev 0 rfl rfl) (c.ev 1 rfl rfl)),
                   Ob.det rfl rfl rfl (fun _ a_ _ _ c => r_move rfl (c.ev 2 rfl rfl)),
                   Ob.gdet rfl rfl rfl rfl (gi := 3) (tg := 209) rfl rfl Iff.rfl (fun _ a_ _ _ c hpc => r_move rfl (c.eo e24 (by kernel_rfl))),
                   Ob.gdet rfl rfl rfl rfl (gi := 3) (tg := 209) rfl rfl Iff.rfl (fun _ a_ _ _ c hpc => r_move rfl (c.eo e3 (by kernel_rfl))),
                   Ob.gdet rfl rfl rfl rfl (gi := 3) (tg := 209) rfl rfl Iff.rfl (fun _ a_ _ _ c hpc => r_lss rfl (c.eg 4 rfl rfl hpc) (c.eg 5 rfl rfl hpc)),
                   Ob.det rfl rfl rfl (fun _ a_ _ _ c => r_and rfl (c.ev 3 rfl rfl) (fun h => (c.eg 6 rfl rfl h))),
           trivial⟩ ?_
        intro a47 w47 τ47 st47 f47
        replace e0 := f47.old e0 (by kernel_rfl)
        replace e3 := f47.old e3 (by kernel_rfl)
        replace e4 := f47.old e4 (by kernel_rfl)
        replace e18 := f47.old e18 (by kernel_rfl)
        replace e24 := f47.old e24 (by kernel_rfl)
        have e213 : get a47 213 = (.bool ((decide ((mid : Int) < (e : Int))) && (decide ((e : Int) < (b : Int))))) := f47.v 7 rfl
        replace r0 : ownR EditE 42 (mF ltE (rotF xs (s : Int).toNat (m : Int).toNat (e : Int).toNat) a s mid) (τ47 0) v w47 := f47.iown 0 rfl rfl
        clear f47
        show Code.wp _ _ _ a47 w47
        refine wp_cond_split (t := (decide ((mid : Int) < (e : Int))) && (decide ((e : Int) < (b : Int)))) e213 (fun hc14 => ?_) (fun hc14 => ?_)
        · try simp only [Bool.and_eq_true, Bool.or_eq_true, decide_eq_true_eq, decide_eq_false_iff_not, Bool.not_eq_true', Bool.and_eq_false_iff, Bool.or_eq_false_iff, Bool.not_eq_false', Int.not_lt, Int.not_le, beq_iff_eq, selB] at hc14
          refine region_St (bf := [0, 0, 0, 0, 0, 31]) (sp := [
              (det (fun k => v.ownBlock = some k ∨ w.heap.size ≤ k) 214 v),
                        (det (fun k => v.ownBlock = some k ∨ w.heap.size ≤ k) 215 (.int .i64 ((mid : Int)))),
                        (det (fun k => v.ownBlock = some k ∨ w.heap.size ≤ k) 216 (.int .i64 ((e : Int)))),
                        (det (fun k => v.ownBlock = some k ∨ w.heap.size ≤ k) 217 (.int .i64 ((b : Int)))),
                        (det (fun k => v.ownBlock = some k ∨ w.heap.size ≤ k) 218 (.func (.func 40) #[] #[])),
                        (own EditE 42 (fun k => v.ownBlock = some k ∨ w.heap.size ≤ k) 0 0 (mF ltE (mF ltE (rotF xs (s : Int).toNat (m : Int).toNat (e : Int).toNat) a s mid) mid e b))])
            [(iown EditE 42 (fun k => v.ownBlock = some k ∨ w.heap.size ≤ k) v (mF ltE (rotF xs (s : Int).toNat (m : Int).toNat (e : Int).toNat) a s mid))] mixed st47 (by kernel_rfl) ⟨r0, trivial⟩
            ⟨Ob.det rfl rfl rfl (fun _ a_ _ _ c => r_move rfl (c.eo e0 (by kernel_rfl))),
                       Ob.det rfl rfl rfl (fun _ a_ _ _ c => r_move rfl (c.eo e18 (by kernel_rfl))),
                       Ob.det rfl rfl rfl (fun _ a_ _ _ c => r_move rfl (c.eo e24 (by kernel_rfl))),
                       Ob.det rfl rfl rfl (fun _ a_ _ _ c => r_move rfl (c.eo e3 (by kernel_rfl))),
                       Ob.det rfl rfl rfl (fun _ a_ _ _ c => r_move rfl (c.eo e4 (by kernel_rfl))),
                       Ob.callIn rfl rfl rfl (by decide) (fun _ a_ _ _ c => ⟨_, _, (e_call5 rfl rfl Try.call46 (c.ev 0 rfl rfl) (c.ev 1 rfl rfl) (c.ev 2 rfl rfl) (c.ev 3 rfl rfl) (c.ev 4 rfl rfl)), c.old e0 (by kernel_rfl), c.iown 0 rfl rfl (by kernel_rfl), fun ho_ => ih v (mF ltE (rotF xs (s : Int).toNat (m : Int).toNat (e : Int).toNat) a s mid) mid e b _ ho_ (by omega) (by omega) (by (try rw [mF_len (by omega) (by omega) (by (try rw [rotF_len (by omega) (by omega) (by omega)]); omega)]); (try rw [rotF_len (by omega) (by omega) (by omega)]); omega) (by (try rw [mF_len (by omega) (by omega) (by (try rw [rotF_len (by omega) (by omega) (by omega)]); omega)]); (try rw [rotF_len (by omega) (by omega) (by omega)]); omega) (by omega) (sym_pre2 hS1 hS2 hA hB hC hD h3 hR (ys := rotF xs (s : Int).toNat (m : Int).toNat (e : Int).toNat) (zs := mF ltE (rotF xs (s : Int).toNat (m : Int).toNat (e : Int).toNat) a s mid) (by first | rfl | exact (rotF_triv (by omega) (by omega) (by omega)).symm) (by first | rfl | exact (mF_triv (by omega) (by omega) (by omega)).symm)).1 (sym_pre2 hS1 hS2 hA hB hC hD h3 hR (ys := rotF xs (s : Int).toNat (m : Int).toNat (e : Int).toNat) (zs := mF ltE (rotF xs (s : Int).toNat (m : Int).toNat (e : Int).toNat) a s mid) (by first | rfl | exact (rotF_triv (by omega) (by omega) (by omega)).symm) (by first | rfl | exact (mF_triv (by omega) (by omega) (by omega)).symm)).2⟩),
             trivial⟩ ?_
          intro a48 w48 τ48 st48 f48
          replace e0 := f48.old e0 (by kernel_rfl)
          have r0 : ownR EditE 42 (mF ltE (mF ltE (rotF xs (s : Int).toNat (m : Int).toNat (e : Int).toNat) a s mid) mid e b) (τ48 0) v w48 := f48.rown 5 rfl rfl e0
          clear f48
          refine end0 (fn := Try.f46) rfl st48.defers ?_
          exact ⟨rfl, (sym_final ltE_swo hS1 hS2 hA hB hC hD h3 hC1 hC2 hR (ys := rotF xs (s : Int).toNat (m : Int).toNat (e : Int).toNat) (zs := mF ltE (rotF xs (s : Int).toNat (m : Int).toNat (e : Int).toNat) a s mid) (us := mF ltE (mF ltE (rotF xs (s : Int).toNat (m : Int).toNat (e : Int).toNat) a s mid) mid e b) (by first | rfl | exact (rotF_triv (by omega) (by omega) (by omega)).symm) (by first | rfl | exact (mF_triv (by omega) (by omega) (by omega)).symm) (by first | rfl | exact (mF_triv (by omega) (by omega) (by omega)).symm)) ▸ r0.1, st48.extIn⟩
        try simp only [Bool.and_eq_true, Bool.or_eq_true, decide_eq_true_eq, decide_eq_false_iff_not, Bool.not_eq_true', Bool.and_eq_false_iff, Bool.or_eq_false_iff, Bool.not_eq_false', Int.not_lt, Int.not_le, beq_iff_eq, selB] at hc14
        refine wp_skip ?_
        refine end0 (fn := Try.f46) rfl st47.defers ?_
        exact ⟨rfl, (sym_final ltE_swo hS1 hS2 hA hB hC hD h3 hC1 hC2 hR (ys := rotF xs (s : Int).toNat (m : Int).toNat (e : Int).toNat) (zs := mF ltE (rotF xs (s : Int).toNat (m : Int).toNat (e : Int).toNat) a s mid) (us := mF ltE (rotF xs (s : Int).toNat (m : Int).toNat (e : Int).toNat) a s mid) (by first | rfl | exact (rotF_triv (by omega) (by omega) (by omega)).symm) (by first | rfl | exact (mF_triv (by omega) (by omega) (by omega)).symm) (by first | rfl | exact (mF_triv (by omega) (by omega) (by omega)).symm)) ▸ r0.1, st47.extIn⟩
      try simp only [Bool.and_eq_true, Bool.or_eq_true, decide_eq_true_eq, decide_eq_false_iff_not, Bool.not_eq_true', Bool.and_eq_false_iff, Bool.or_eq_false_iff, Bool.not_eq_false', Int.not_lt, Int.not_le, beq_iff_eq, selB] at hc13
      refine wp_skip ?_
      show Code.wp _ _ _ a45 w45
      refine wp_seq ?_
      refine region_St (bf := [0, 0, 3, 7, 15, 15, 63, 127]) (sp := [
          (det (fun k => v.ownBlock = some k ∨ w.heap.size ≤ k) 206 (.int .i64 ((mid : Int)))),
                (det (fun k => v.ownBlock = some k ∨ w.heap.size ≤ k) 207 (.int .i64 ((e : Int)))),
                (det (fun k => v.ownBlock = some k ∨ w.heap.size ≤ k) 208 (.bool (decide ((mid : Int) < (e : Int))))),
                (det (fun k => v.ownBlock = some k ∨ w.heap.size ≤ k) 209 (.bool (decide ((mid : Int) < (e : Int))))),
                (gdet (fun k => v.ownBlock = some k ∨ w.heap.size ≤ k) 210 ((decide ((mid : Int) < (e : Int))) = true) (.int .i64 ((e : Int)))),
                (gdet (fun k => v.ownBlock = some k ∨ w.heap.size ≤ k) 211 ((decide ((mid : Int) < (e : Int))) = true) (.int .i64 ((b : Int)))),
                (gdet (fun k => v.ownBlock = some k ∨ w.heap.size ≤ k) 212 ((decide ((mid : Int) < (e : Int))) = true) (.bool (decide ((e : Int) < (b : Int))))),
                (det (fun k => v.ownBlock = some k ∨ w.heap.size ≤ k) 213 (.bool ((decide ((mid : Int) < (e : Int))) && (decide ((e : Int) < (b : Int))))))])
        [(iown EditE 42 (fun k => v.ownBlock = some k ∨ w.heap.size ≤ k) v (rotF xs (s : Int).toNat (m : Int).toNat (e : Int).toNat))] mixed st45 (by kernel_rfl) ⟨r0, trivial⟩
        ⟨Ob.det rfl rfl rfl (fun _ a_ _ _ c => r_move rfl (c.eo e18 (by kernel_rfl))),
               Ob.det rfl rfl rfl (fun _ a_ _ _ c => r_move rfl (c.eo e24 (by kernel_rfl))),
               Ob.det rfl rfl rfl (fun _ a_ _ _ c => r_lss rfl (c.ev 0 rfl rfl) (c.ev 1 rfl rfl)),
               Ob.det rfl rfl rfl (fun _ a_ _ _ c => r_move rfl (c.ev 2 rfl rfl)),
               Ob.gdet rfl rfl rfl rfl (gi := 3) (tg := 209) rfl rfl Iff.rfl (fun _ a_ _ _ c hpc => r_move rfl (c.eo e24 (by kernel_rfl))),
               Ob.gdet rfl rfl rfl rfl (gi := 3) (tg := 209) rfl rfl Iff.rfl (fun _ a_ _ _ c hpc => r_move rfl (c.eo e3 (by kernel_rfl))),
               Ob.gdet rfl rfl rfl rfl (gi := 3) (tg := 209) rfl rfl Iff.rfl (fun _ a_ _ _ c hpc => r_lss rfl (c.eg 4 rfl rfl hpc) (c.eg 5 rfl rfl hpc)),
               Ob.det rfl rfl rfl (fun _ a_ _ _ c => r_and rfl (c.ev 3 rfl rfl) (fun h => (c.eg 6 rfl rfl h))),
         trivial⟩ ?_
      intro a49 w49 τ49 st49 f49
      replace e0 := f49.old e0 (by kernel_rfl)
      replace e3 := f49.old e3 (by kernel_rfl)
      replace e4 := f49.old e4 (by kernel_rfl)
      replace e18 := f49.old e18 (by kernel_rfl)
      replace e24 := f49.old e24 (by kernel_rfl)
      have e213 : get a49 213 = (.bool ((decide ((mid : Int) < (e : Int))) && (decide ((e : Int) < (b : Int))))) := f49.v 7 rfl
      replace r0 : ownR EditE 42 (rotF xs (s : Int).toNat (m : Int).toNat (e : Int).toNat) (τ49 0) v w49 := f49.iown 0 rfl rfl
      clear f49
      show Code.wp _ _ _ a49 w49
      refine wp_cond_split (t := (decide ((mid : Int) < (e : Int))) && (decide ((e : Int) < (b : Int)))) e213 (fun hc15 => ?_) (fun hc15 => ?_)
      · try simp only [Bool.and_eq_true, Bool.or_eq_true, decide_eq_true_eq, decide_eq_false_iff_not, Bool.not_eq_true', Bool.and_eq_false_iff, Bool.or_eq_false_iff, Bool.not_eq_false', Int.not_lt, Int.not_le, beq_iff_eq, selB] at hc15
        refine region_St (bf := [0, 0, 0, 0, 0, 31]) (sp := [
            (det (fun k => v.ownBlock = some k ∨ w.heap.size ≤ k) 214 v),
                    (det (fun k => v.ownBlock = some k ∨ w.heap.size ≤ k) 215 (.int .i64 ((mid : Int)))),
                    (det (fun k => v.ownBlock = some k ∨ w.heap.size ≤ k) 216 (.int .i64 ((e : Int)))),
                    (det (fun k => v.ownBlock = some k ∨ w.heap.size ≤ k) 217 (.int .i64 ((b : Int)))),
                    (det (fun k => v.ownBlock = some k ∨ w.heap.size ≤ k) 218 (.func (.func 40) #[] #[])),
                    (own EditE 42 (fun k => v.ownBlock = some k ∨ w.heap.size ≤ k) 0 0 (mF ltE (rotF xs (s : Int).toNat (m : Int).toNat (e : Int).toNat) mid e b))])
          [(iown EditE 42 (fun k => v.ownBlock = some k ∨ w.heap.size ≤ k) v (rotF xs (s : Int).toNat (m : Int).toNat (e : Int).toNat))] mixed st49 (by kernel_rfl) ⟨r0, trivial⟩
          ⟨Ob.det rfl rfl rfl (fun _ a_ _ _ c => r_move rfl (c.eo e0 (by kernel_rfl))),
                   Ob.det rfl rfl rfl (fun _ a_ _ _ c => r_move rfl (c.eo e18 (by kernel_rfl))),
                   Ob.det rfl rfl rfl (fun _ a_ _ _ c => r_move rfl (c.eo e24 (by kernel_rfl))),
                   Ob.det rfl rfl rfl (fun _ a_ _ _ c => r_move rfl (c.eo e3 (by kernel_rfl))),
                   Ob.det rfl rfl rfl (fun _ a_ _ _ c => r_move rfl (c.eo e4 (by kernel_rfl))),
                   Ob.callIn rfl rfl rfl (by decide) (fun _ a_ _ _ c => ⟨_, _, (e_call5 rfl rfl Try.call46 (c.ev 0 rfl rfl) (c.ev 1 rfl rfl) (c.ev 2 rfl rfl) (c.ev 3 rfl rfl) (c.ev 4 rfl rfl)), c.old e0 (by kernel_rfl), c.iown 0 rfl rfl (by kernel_rfl), fun ho_ => ih v (rotF xs (s : Int).toNat (m : Int).toNat (e : Int).toNat) mid e b _ ho_ (by omega) (by omega) (by (try rw [mF_len (by omega) (by omega) (by (try rw [rotF_len (by omega) (by omega) (by omega)]); omega)]); (try rw [rotF_len (by omega) (by omega) (by omega)]); omega) (by (try rw [mF_len (by omega) (by omega) (by (try rw [rotF_len (by omega) (by omega) (by omega)]); omega)]); (try rw [rotF_len (by omega) (by omega) (by omega)]); omega) (by omega) (sym_pre2 hS1 hS2 hA hB hC hD h3 hR (ys := rotF xs (s : Int).toNat (m : Int).toNat (e : Int).toNat) (zs := rotF xs (s : Int).toNat (m : Int).toNat (e : Int).toNat) (by first | rfl | exact (rotF_triv (by omega) (by omega) (by omega)).symm) (by first | rfl | exact (mF_triv (by omega) (by omega) (by omega)).symm)).1 (sym_pre2 hS1 hS2 hA hB hC hD h3 hR (ys := rotF xs (s : Int).toNat (m : Int).toNat (e : Int).toNat) (zs := rotF xs (s : Int).toNat (m : Int).toNat (e : Int).toNat) (by first | rfl | exact (rotF_triv (by omega) (by omega) (by omega)).symm) (by first | rfl | exact (mF_triv (by omega) (by omega) (by omega)).symm)).2⟩),
           trivial⟩ ?_
        intro a50 w50 τ50 st50 f50
        replace e0 := f50.old e0 (by kernel_rfl)
        have r0 : ownR EditE 42 (mF ltE (rotF xs (s : Int).toNat (m : Int).toNat (e : Int).toNat) mid e b) (τ50 0) v w50 := f50.rown 5 rfl rfl e0
        clear f50
        refine end0 (fn := Try.f46) rfl st50.defers ?_
        exact ⟨rfl, (sym_final ltE_swo hS1 hS2 hA hB hC hD h3 hC1 hC2 hR (ys := rotF xs (s : Int).toNat (m : Int).toNat (e : Int).toNat) (zs := rotF xs (s : Int).toNat (m : Int).toNat (e : Int).toNat) (us := mF ltE (rotF xs (s : Int).toNat (m : Int).toNat (e : Int).toNat) mid e b) (by first | rfl | exact (rotF_triv (by omega) (by omega) (by omega)).symm) (by first | rfl | exact (mF_triv (by omega) (by omega) (by omega)).symm) (by first | rfl | exact (mF_triv (by omega) (by omega) (by omega)).symm)) ▸ r0.1, st50.extIn⟩
      try simp only [Bool.and_eq_true, Bool.or_eq_true, decide_eq_true_eq, decide_eq_false_iff_not, Bool.not_eq_true', Bool.and_eq_false_iff, Bool.or_eq_false_iff, Bool.not_eq_false', Int.not_lt, Int.not_le, beq_iff_eq, selB] at hc15
      refine wp_skip ?_
      refine end0 (fn := Try.f46) rfl st49.defers ?_
      exact ⟨rfl, (sym_final ltE_swo hS1 hS2 hA hB hC hD h3 hC1 hC2 hR (ys := rotF xs (s : Int).toNat (m : Int).toNat (e : Int).toNat) (zs := rotF xs (s : Int).toNat (m : Int).toNat (e : Int).toNat) (us := rotF xs (s : Int).toNat (m : Int).toNat (e : Int).toNat) (by first | rfl | exact (rotF_triv (by omega) (by omega) (by omega)).symm) (by first | rfl | exact (mF_triv (by omega) (by omega) (by omega)).symm) (by first | rfl | exact (mF_triv (by omega) (by omega) (by omega)).symm)) ▸ r0.1, st49.extIn⟩
    try simp only [Bool.and_eq_true, Bool.or_eq_true, decide_eq_true_eq, decide_eq_false_iff_not, Bool.not_eq_true', Bool.and_eq_false_iff, Bool.or_eq_false_iff, Bool.not_eq_false', Int.not_lt, Int.not_le, beq_iff_eq, selB] at hc12
    refine wp_skip ?_
    show Code.wp _ _ _ a43 w43
    refine wp_seq ?_
    refine wp_seq ?_
    refine region_St (bf := [0, 0, 3, 7, 15, 15, 63, 127]) (sp := [
        (det (fun k => v.ownBlock = some k ∨ w.heap.size ≤ k) 192 (.int .i64 ((a : Int)))),
            (det (fun k => v.ownBlock = some k ∨ w.heap.size ≤ k) 193 (.int .i64 ((s : Int)))),
            (det (fun k => v.ownBlock = some k ∨ w.heap.size ≤ k) 194 (.bool (decide ((a : Int) < (s : Int))))),
            (det (fun k => v.ownBlock = some k ∨ w.heap.size ≤ k) 195 (.bool (decide ((a : Int) < (s : Int))))),
            (gdet (fun k => v.ownBlock = some k ∨ w.heap.size ≤ k) 196 ((decide ((a : Int) < (s : Int))) = true) (.int .i64 ((s : Int)))),
            (gdet (fun k => v.ownBlock = some k ∨ w.heap.size ≤ k) 197 ((decide ((a : Int) < (s : Int))) = true) (.int .i64 ((mid : Int)))),
            (gdet (fun k => v.ownBlock = some k ∨ w.heap.size ≤ k) 198 ((decide ((a : Int) < (s : Int))) = true) (.bool (decide ((s : Int) < (mid : Int))))),
            (det (fun k => v.ownBlock = some k ∨ w.heap.size ≤ k) 199 (.bool ((decide ((a : Int) < (s : Int))) && (decide ((s : Int) < (mid : Int))))))])
      [(iown EditE 42 (fun k => v.ownBlock = some k ∨ w.heap.size ≤ k) v (xs))] mixed st43 (by kernel_rfl) ⟨r0, trivial⟩
      ⟨Ob.det rfl rfl rfl (fun _ a_ _ _ c => r_move rfl (c.eo e1 (by kernel_rfl))),
           Ob.det rfl rfl rfl (fun _ a_ _ _ c => r_move rfl (c.eo e20 (by kernel_rfl))),
           Ob.det rfl rfl rfl (fun _ a_ _ _ c => r_lss rfl (c.ev 0 rfl rfl) (c.ev 1 rfl rfl)),
           Ob.det rfl rfl rfl (fun _ a_ _ _ c => r_move rfl (c.ev 2 rfl rfl)),
           Ob.gdet rfl rfl rfl rfl (gi := 3) (tg := 195) rfl rfl Iff.rfl (fun _ a_ _ _ c hpc => r_move rfl (c.eo e20 (by kernel_rfl))),
           Ob.gdet rfl rfl rfl rfl (gi := 3) (tg := 195) rfl rfl Iff.rfl (fun _ a_ _ _ c hpc => r_move rfl (c.eo e18 (by kernel_rfl))),
           Ob.gdet rfl rfl rfl rfl (gi := 3) (tg := 195) rfl rfl Iff.rfl (fun _ a_ _ _ c hpc => r_lss rfl (c.eg 4 rfl rfl hpc) (c.eg 5 rfl rfl hpc)),
           Ob.det rfl rfl rfl (fun _ a_ _ _ c => r_and rfl (c.ev 3 rfl rfl) (fun h => (c.eg 6 rfl rfl h))),
       trivial⟩ ?_
    intro a51 w51 τ51 st51 f51
    replace e0 := f51.old e0 (by kernel_rfl)
    replace e1 := f51.old e1 (by kernel_rfl)
    replace e3 := f51.old e3 (by kernel_rfl)
    replace e4 := f51.old e4 (by kernel_rfl)
    replace e18 := f51.old e18 (by kernel_rfl)
    replace e20 := f51.old e20 (by kernel_rfl)
    replace e24 := f51.old e24 (by kernel_rfl)
    have e199 : get a51 199 = (.bool ((decide ((a : Int) < (s : Int))) && (decide ((s : Int) < (mid : Int))))) := f51.v 7 rfl
    replace r0 : ownR EditE 42 (xs) (τ51 0) v w51 := f51.iown 0 rfl rfl
    clear f51
    show Code.wp _ _ _ a51 w51
    refine wp_cond_split (t := (decide ((a : Int) < (s : Int))) && (decide ((s : Int) < (mid : Int)))) e199 (fun hc16 => ?_) (fun hc16 => ?_)
    · try simp only [Bool.and_eq_true, Bool.or_eq_true, decide_eq_true_eq, decide_eq_false_iff_not, Bool.not_eq_true', Bool.and_eq_false_iff, Bool.or_eq_false_iff, Bool.not_eq_false', Int.not_lt, Int.not_le, beq_iff_eq, selB] at hc16
      refine region_St (bf := [0, 0, 0, 0, 0, 31]) (sp := [
          (det (fun k => v.ownBlock = some k ∨ w.heap.size ≤ k) 200 v),
                (det (fun k => v.ownBlock = some k ∨ w.heap.size ≤ k) 201 (.int .i64 ((a : Int)))),
                (det (fun k => v.ownBlock = some k ∨ w.heap.size ≤ k) 202 (.int .i64 ((s : Int)))),
                (det (fun k => v.ownBlock = some k ∨ w.heap.size ≤ k) 203 (.int .i64 ((mid : Int)))),
                (det (fun k => v.ownBlock = some k ∨ w.heap.size ≤ k) 204 (.func (.func 40) #[] #[])),
                (own EditE 42 (fun k => v.ownBlock = some k ∨ w.heap.size ≤ k) 0 0 (mF ltE xs a s mid))])
        [(iown EditE 42 (fun k => v.ownBlock = some k ∨ w.heap.size ≤ k) v (xs))] mixed st51 (by kernel_rfl) ⟨r0, trivial⟩
        ⟨Ob.det rfl rfl rfl (fun _ a_ _ _ c => r_move rfl (c.eo e0 (by kernel_rfl))),
               Ob.det rfl rfl rfl (fun _ a_ _ _ c => r_move rfl (c.eo e1 (by kernel_rfl))),
               Ob.det rfl rfl rfl (fun _ a_ _ _ c => r_move rfl (c.eo e20 (by kernel_rfl))),
               Ob.det rfl rfl rfl (fun _ a_ _ _ c => r_move rfl (c.eo e18 (by kernel_rfl))),
               Ob.det rfl rfl rfl (fun _ a_ _ _ c => r_move rfl (c.eo e4 (by kernel_rfl))),
               Ob.callIn rfl rfl rfl (by decide) (fun _ a_ _ _ c => ⟨_, _, (e_call5 rfl rfl Try.call46 (c.ev 0 rfl rfl) (c.ev 1 rfl rfl) (c.ev 2 rfl rfl) (c.ev 3 rfl rfl) (c.ev 4 rfl rfl)), c.old e0 (by kernel_rfl), c.iown 0 rfl rfl (by kernel_rfl), fun ho_ => ih v xs a s mid _ ho_ (by omega) (by omega) (by (try rw [mF_len (by omega) (by omega) (by (try rw [rotF_len (by omega) (by omega) (by omega)]); omega)]); (try rw [rotF_len (by omega) (by omega) (by omega)]); omega) (by (try rw [mF_len (by omega) (by omega) (by (try rw [rotF_len (by omega) (by omega) (by omega)]); omega)]); (try rw [rotF_len (by omega) (by omega) (by omega)]); omega) (by omega) (sym_pre1 hS1 hS2 hA hB hC hD h3 hR (ys := xs) (by first | rfl | exact (rotF_triv (by omega) (by omega) (by omega)).symm)).1 (sym_pre1 hS1 hS2 hA hB hC hD h3 hR (ys := xs) (by first | rfl | exact (rotF_triv (by omega) (by omega) (by omega)).symm)).2⟩),
         trivial⟩ ?_
      intro a52 w52 τ52 st52 f52
      replace e0 := f52.old e0 (by kernel_rfl)
      replace e3 := f52.old e3 (by kernel_rfl)
      replace e4 := f52.old e4 (by kernel_rfl)
      replace e18 := f52.old e18 (by kernel_rfl)
      replace e24 := f52.old e24 (by kernel_rfl)
      have r0 : ownR EditE 42 (mF ltE xs a s mid) (τ52 0) v w52 := f52.rown 5 rfl rfl e0
      clear f52
      show Code.wp _ _ _ a52 w52
      refine wp_seq ?_
      refine region_St (bf := [0, 0, 3, 7, 15, 15, 63, 127]) (sp := [
          (det (fun k => v.ownBlock = some k ∨ w.heap.size ≤ k) 206 (.int .i64 ((mid : Int)))),
                (det (fun k => v.ownBlock = some k ∨ w.heap.size ≤ k) 207 (.int .i64 ((e : Int)))),
                (det (fun k => v.ownBlock = some k ∨ w.heap.size ≤ k) 208 (.bool (decide ((mid : Int) < (e : Int))))),
                (det (fun k => v.ownBlock = some k ∨ w.heap.size ≤ k) 209 (.bool (decide ((mid : Int) < (e : Int))))),
                (gdet (fun k => v.ownBlock = some k ∨ w.heap.size ≤ k) 210 ((decide ((mid : Int) < (e : Int))) = true) (.int .i64 ((e : Int)))),
                (gdet (fun k => v.ownBlock = some k ∨ w.heap.size ≤ k) 211 ((decide ((mid : Int) < (e : Int))) = true) (.int .i64 ((b : Int)))),
                (gdet (fun k => v.ownBlock = some k ∨ w.heap.size ≤ k) 212 ((decide ((mid : Int) < (e : Int))) = true) (.bool (decide ((e : Int) < (b : Int))))),
                (det (fun k => v.ownBlock = some k ∨ w.heap.size ≤ k) 213 (.bool ((decide ((mid : Int) < (e : Int))) && (decide ((e : Int) < (b : Int))))))])
        [(iown EditE 42 (fun k => v.ownBlock = some k ∨ w.heap.size ≤ k) v (mF ltE xs a s mid))] mixed st52 (by kernel_rfl) ⟨r0, trivial⟩
        ⟨Ob.det rfl rfl rfl (fun _ a_ _ _ c => r_move rfl (c.eo e18 (by kernel_rfl))),
               Ob.det rfl rfl rfl (fun _ a_ _ _ c => r_move rfl (c.eo e24 (by kernel_rfl))),
               Ob.det rfl rfl rfl (fun _ a_ _ _ c => r_lss rfl (c.ev 0 rfl rfl) (c.ev 1 rfl rfl)),
               Ob.det rfl rfl rfl (fun _ a_ _ _ c => r_move rfl (c.ev 2 rfl rfl)),
               Ob.gdet rfl rfl rfl rfl (gi := 3) (tg := 209) rfl rfl Iff.rfl (fun _ a_ _ _ c hpc => r_move rfl (c.eo e24 (by kernel_rfl))),
               Ob.gdet rfl rfl rfl rfl (gi := 3) (tg := 209) rfl rfl Iff.rfl (fun _ a_ _ _ c hpc => r_move rfl (c.eo e3 (by kernel_rfl))),
               Ob.gdet rfl rfl rfl rfl (gi := 3) (tg := 209) rfl rfl Iff.rfl (fun _ a_ _ _ c hpc => r_lss rfl (c.eg 4 rfl rfl hpc) (c.eg 5 rfl rfl hpc)),
               Ob.det rfl rfl rfl (fun _ a_ _ _ c => r_and rfl (c.ev 3 rfl rfl) (fun h => (c.eg 6 rfl rfl h))),
         trivial⟩ ?_
      intro a53 w53 τ53 st53 f53
      replace e0 := f53.old e0 (by kernel_rfl)
      replace e3 := f53.old e3 (by kernel_rfl)
      replace e4 := f53.old e4 (by kernel_rfl)
      replace e18 := f53.old e18 (by kernel_rfl)
      replace e24 := f53.old e24 (by kernel_rfl)
      have e213 : get a53 213 = (.bool ((decide ((mid : Int) < (e : Int))) && (decide ((e : Int) < (b : Int))))) := f53.v 7 rfl
      replace r0 : ownR EditE 42 (mF ltE xs a s mid) (τ53 0) v w53 := f53.iown 0 rfl rfl
      clear f53
      show Code.wp _ _ _ a53 w53
      refine wp_cond_split (t := (decide ((mid : Int) < (e : Int))) && (decide ((e : Int) < (b : Int)))) e213 (fun hc17 => ?_) (fun hc17 => ?_)
      · try simp only [Bool.and_eq_true, Bool.or_eq_true, decide_eq_true_eq, decide_eq_false_iff_not, Bool.not_eq_true', Bool.and_eq_false_iff, Bool.or_eq_false_iff, Bool.not_eq_false', Int.not_lt, Int.not_le, beq_iff_eq, selB] at hc17
        refine region_St (bf := [0, 0, 0, 0, 0, 31]) (sp := [
            (det (fun k => v.ownBlock = some k ∨ w.heap.size ≤ k) 214 v),
                    (det (fun k => v.ownBlock = some k ∨ w.heap.size ≤ k) 215 (.int .i64 ((mid : Int)))),
                    (det (fun k => v.ownBlock = some k ∨ w.heap.size ≤ k) 216 (.int .i64 ((e : Int)))),
                    (det (fun k => v.ownBlock = some k ∨ w.heap.size ≤ k) 217 (.int .i64 ((b : Int)))),
                    (det (fun k => v.ownBlock = some k ∨ w.heap.size ≤ k) 218 (.func (.func 40) #[] #[])),
                    (own EditE 42 (fun k => v.ownBlock = some k ∨ w.heap.size ≤ k) 0 0 (mF ltE (mF ltE xs a s mid) mid e b))])
          [(iown EditE 42 (fun k => v.ownBlock = some k ∨ w.heap.size ≤ k) v (mF ltE xs a s mid))] mixed st53 (by kernel_rfl) ⟨r0, trivial⟩
          ⟨Ob.det rfl rfl rfl (fun _ a_ _ _ c => r_move rfl (c.eo e0 (by kernel_rfl))),
                   Ob.det rfl rfl rfl (fun _ a_ _ _ c => r_move rfl (c.eo e18 (by kernel_rfl))),
                   Ob.det rfl rfl rfl (fun _ a_ _ _ c => r_move rfl (c.eo e24 (by kernel_rfl))),
                   Ob.det rfl rfl rfl (fun _ a_ _ _ c => r_move rfl (c.eo e3 (by kernel_rfl))),
                   Ob.det rfl rfl rfl (fun _ a_ _ _ c => r_move rfl (c.eo e4 (by kernel_rfl))),
                   Ob.callIn rfl rfl rfl (by decide) (fun _ a_ _ _ c => ⟨_, _, (e_call5 rfl rfl Try.call46 (c.ev 0 rfl rfl) (c.ev 1 rfl rfl) (c.ev 2 rfl rfl) (c.ev 3 rfl rfl) (c.ev 4 rfl rfl)), c.old e0 (by kernel_rfl), c.iown 0 rfl rfl (by kernel_rfl), fun ho_ => ih v (mF ltE xs a s mid) mid e b _ ho_ (by omega) (by omega) (by (try rw [mF_len (by omega) (by omega) (by (try rw [rotF_len (by omega) (by omega) (by omega)]); omega)]); (try rw [rotF_len (by omega) (by omega) (by omega)]); omega) (by (try rw [mF_len (by omega) (by omega) (by (try rw [rotF_len (by omega) (by omega) (by omega)]); omega)]); (try rw [rotF_len (by omega) (by omega) (by omega)]); omega) (by omega) (sym_pre2 hS1 hS2 hA hB hC hD h3 hR (ys := xs) (zs := mF ltE xs a s mid) (by first | rfl | exact (rotF_triv (by omega) (by omega) (by omega)).symm) (by first | rfl | exact (mF_triv (by omega) (by omega) (by omega)).symm)).1 (sym_pre2 hS1 hS2 hA hB hC hD h3 hR (ys := xs) (zs := mF ltE xs a s mid) (by first | rfl | exact (rotF_triv (by omega) (by omega) (by omega)).symm) (by first | rfl | exact (mF_triv (by omega) (by omega) (by omega)).symm)).2⟩),
           trivial⟩ ?_
        intro a54 w54 τ54 st54 f54
        replace e0 := f54.old e0 (by kernel_rfl)
        have r0 : ownR EditE 42 (mF ltE (mF ltE xs a s mid) mid e b) (τ54 0) v w54 := f54.rown 5 rfl rfl e0
        clear f54
        refine end0 (fn := Try.f46) rfl st54.defers ?_
        exact ⟨rfl, (sym_final ltE_swo hS1 hS2 hA hB hC hD h3 hC1 hC2 hR (ys := xs) (zs := mF ltE xs a s mid) (us := mF ltE (mF ltE xs a s mid) mid e b) (by first | rfl | exact (rotF_triv (by omega) (by omega) (by omega)).symm) (by first | rfl | exact (mF_triv (by omega) (by omega) (by omega)).symm) (by first | rfl | exact (mF_triv (by omega) (by omega) (by omega)).symm)) ▸ r0.1, st54.extIn⟩
      try simp only [Bool.and_eq_true, Bool.or_eq_true, decide_eq_true_eq, decide_eq_false_iff_not, Bool.not_eq_true', Bool.and_eq_false_iff, Bool.or_eq_false_iff, Bool.not_eq_false', Int.not_lt, Int.not_le, beq_iff_eq, selB] at hc17
      refine wp_skip ?_
      refine end0 (fn := Try.f46) rfl st53.defers ?_
      exact ⟨rfl, (sym_final ltE_swo hS1 hS2 hA hB hC hD h3 hC1 hC2 hR (ys := xs) (zs := mF ltE xs a s mid) (us := mF ltE xs a s mid) (by first | rfl | exact (rotF_triv (by omega) (by omega) (by omega)).symm) (by first | rfl | exact (mF_triv (by omega) (by omega) (by omega)).symm) (by first | rfl | exact (mF_triv (by omega) (by omega) (by omega)).symm)) ▸ r0.1, st53.extIn⟩
    try simp only [Bool.and_eq_true, Bool.or_eq_true, decide_eq_true_eq, decide_eq_false_iff_not, Bool.not_eq_true', Bool.and_eq_false_iff, Bool.or_eq_false_iff, Bool.not_eq_false', Int.not_lt, Int.not_le, beq_iff_eq, selB] at hc16
    refine wp_skip ?_
    show Code.wp _ _ _ a51 w51
    refine wp_seq ?_
    refine region_St (bf := [0, 0, 3, 7, 15, 15, 63, 127]) (sp := [
        (det (fun k => v.ownBlock = some k ∨ w.heap.size ≤ k) 206 (.int .i64 ((mid : Int)))),
            (det (fun k => v.ownBlock = some k ∨ w.heap.size ≤ k) 207 (.int .i64 ((e : Int)))),
            (det (fun k => v.ownBlock = some k ∨ w.heap.size ≤ k) 208 (.bool (decide ((mid : Int) < (e : Int))))),
            (det (fun k => v.ownBlock = some k ∨ w.heap.size ≤ k) 209 (.bool (decide ((mid : Int) < (e : Int))))),
            (gdet (fun k => v.ownBlock = some k ∨ w.heap.size ≤ k) 210 ((decide ((mid : Int) < (e : Int))) = true) (.int .i64 ((e : Int)))),
            (gdet (fun k => v.ownBlock = some k ∨ w.heap.size ≤ k) 211 ((decide ((mid : Int) < (e : Int))) = true) (.int .i64 ((b : Int)))),
            (gdet (fun k => v.ownBlock = some k ∨ w.heap.size ≤ k) 212 ((decide ((mid : Int) < (e : Int))) = true) (.bool (decide ((e : Int) < (b : Int))))),
            (det (fun k => v.ownBlock = some k ∨ w.heap.size ≤ k) 213 (.bool ((decide ((mid : Int) < (e : Int))) && (decide ((e : Int) < (b : Int))))))])
      [(iown EditE 42 (fun k => v.ownBlock = some k ∨ w.heap.size ≤ k) v (xs))] mixed st51 (by kernel_rfl) ⟨r0, trivial⟩
      ⟨Ob.det rfl rfl rfl (fun _ a_ _ _ c => r_move rfl (c.eo e18 (by kernel_rfl))),
           Ob.det rfl rfl rfl (fun _ a_ _ _ c => r_move rfl (c.eo e24 (by kernel_rfl))),
           Ob.det rfl rfl rfl (fun _ a_ _ _ c => r_lss rfl (c.ev 0 rfl rfl) (c.ev 1 rfl rfl)),
           Ob.det rfl rfl rfl (fun _ a_ _ _ c => r_move rfl (c.ev 2 rfl rfl)),
           Ob.gdet rfl rfl rfl rfl (gi := 3) (tg := 209) rfl rfl Iff.rfl (fun _ a_ _ _ c hpc => r_move rfl (c.eo e24 (by kernel_rfl))),
           Ob.gdet rfl rfl rfl rfl (gi := 3) (tg := 209) rfl rfl Iff.rfl (fun _ a_ _ _ c hpc => r_move rfl (c.eo e3 (by kernel_rfl))),
           Ob.gdet rfl rfl rfl rfl (gi := 3) (tg := 209) rfl rfl Iff.rfl (fun _ a_ _ _ c hpc => r_lss rfl (c.eg 4 rfl rfl hpc) (c.eg 5 rfl rfl hpc)),
           Ob.det rfl rfl rfl (fun _ a_ _ _ c => r_and rfl (c.ev 3 rfl rfl) (fun h => (c.eg 6 rfl rfl h))),
       trivial⟩ ?_
    intro a55 w55 τ55 st55 f55
    replace e0 := f55.old e0 (by kernel_rfl)
    replace e3 := f55.old e3 (by kernel_rfl)
    replace e4 := f55.old e4 (by kernel_rfl)
    replace e18 := f55.old e18 (by kernel_rfl)
    replace e24 := f55.old e24 (by kernel_rfl)
    have e213 : get a55 213 = (.bool ((decide ((mid : Int) < (e : Int))) && (decide ((e : Int) < (b : Int))))) := f55.v 7 rfl
    replace r0 : ownR EditE 42 (xs) (τ55 0) v w55 := f55.iown 0 rfl rfl
    clear f55
    show Code.wp _ _ _ a55 w55
    refine wp_cond_split (t := (decide ((mid : Int) < (e : Int))) && (decide ((e : Int) < (b : Int)))) e213 (fun hc18 => ?_) (fun hc18 => ?_)
    · try simp only [Bool.and_eq_true, Bool.or_eq_true, decide_eq_true_eq, decide_eq_false_iff_not, Bool.not_eq_true', Bool.and_eq_false_iff, Bool.or_eq_false_iff, Bool.not_eq_false', Int.not_lt, Int.not_le, beq_iff_eq, selB] at hc18
      refine region_St (bf := [0, 0, 0, 0, 0, 31]) (sp := [
          (det (fun k => v.ownBlock = some k ∨ w.heap.size ≤ k) 214 v),
                (det (fun k => v.ownBlock = some k ∨ w.heap.size ≤ k) 215 (.int .i64 ((mid : Int)))),
                (det (fun k => v.ownBlock = some k ∨ w.heap.size ≤ k) 216 (.int .i64 ((e : Int)))),
                (det (fun k => v.ownBlock = some k ∨ w.heap.size ≤ k) 217 (.int .i64 ((b : Int)))),
                (det (fun k => v.ownBlock = some k ∨ w.heap.size ≤ k) 218 (.func (.func 40) #[] #[])),
                (own EditE 42 (fun k => v.ownBlock = some k ∨ w.heap.size ≤ k) 0 0 (mF ltE xs mid e b))])
        [(iown EditE 42 (fun k => v.ownBlock = some k ∨ w.heap.size ≤ k) v (xs))] mixed st55 (by kernel_rfl) ⟨r0, trivial⟩
        ⟨Ob.det rfl rfl rfl (fun _ a_ _ _ c => r_move rfl (c.eo e0 (by kernel_rfl))),
               Ob.det rfl rfl rfl (fun _ a_ _ _ c => r_move rfl (c.eo e18 (by kernel_rfl))),
               Ob.det rfl rfl rfl (fun _ a_ _ _ c => r_move rfl (c.eo e24 (by kernel_rfl))),
               Ob.det rfl rfl rfl (fun _ a_ _ _ c => r_move rfl (c.eo e3 (by kernel_rfl))),
               Ob.det rfl rfl rfl (fun _ a_ _ _ c => r_move rfl (c.eo e4 (by kernel_rfl))),
               Ob.callIn rfl rfl rfl (by decide) (fun _ a_ _ _ c => ⟨_, _, (e_call5 rfl rfl Try.call46 (c.ev 0 rfl rfl) (c.ev 1 rfl rfl) (c.ev 2 rfl rfl) (c.ev 3 rfl rfl) (c.ev 4 rfl rfl)), c.old e0 (by kernel_rfl), c.iown 0 rfl rfl (by kernel_rfl), fun ho_ => ih v xs mid e b _ ho_ (by omega) (by omega) (by (try rw [mF_len (by omega) (by omega) (by (try rw [rotF_len (by omega) (by omega) (by omega)]); omega)]); (try rw [rotF_len (by omega) (by omega) (by omega)]); omega) (by (try rw [mF_len (by omega) (by omega) (by (try rw [rotF_len (by omega) (by omega) (by omega)]); omega)]); (try rw [rotF_len (by omega) (by omega) (by omega)]); omega) (by omega) (sym_pre2 hS1 hS2 hA hB hC hD h3 hR (ys := xs) (zs := xs) (by first | rfl | exact (rotF_triv (by omega) (by omega) (by omega)).symm) (by first | rfl | exact (mF_triv (by omega) (by omega) (by omega)).symm)).1 (sym_pre2 hS1 hS2 hA hB hC hD h3 hR (ys := xs) (zs := xs) (by first | rfl | exact (rotF_triv (by omega) (by omega) (by omega)).symm) (by first | rfl | exact (mF_triv (by omega) (by omega) (by omega)).symm)).2⟩),
         trivial⟩ ?_
      intro a56 w56 τ56 st56 f56
      replace e0 := f56.old e0 (by kernel_rfl)
      have r0 : ownR EditE 42 (mF ltE xs mid e b) (τ56 0) v w56 := f56.rown 5 rfl rfl e0
      clear f56
      refine end0 (fn := Try.f46) rfl st56.defers ?_
      exact ⟨rfl, (sym_final ltE_swo hS1 hS2 hA hB hC hD h3 hC1 hC2 hR (ys := xs) (zs := xs) (us := mF ltE xs mid e b) (by first | rfl | exact (rotF_triv (by omega) (by omega) (by omega)).symm) (by first | rfl | exact (mF_triv (by omega) (by omega) (by omega)).symm) (by first | rfl | exact (mF_triv (by omega) (by omega) (by omega)).symm)) ▸ r0.1, st56.extIn⟩
    try simp only [Bool.and_eq_true, Bool.or_eq_true, decide_eq_true_eq, decide_eq_false_iff_not, Bool.not_eq_true', Bool.and_eq_false_iff, Bool.or_eq_false_iff, Bool.not_eq_false', Int.not_lt, Int.not_le, beq_iff_eq, selB] at hc18
    refine wp_skip ?_
    refine end0 (fn := Try.f46) rfl st55.defers ?_
    exact ⟨rfl, (sym_final ltE_swo hS1 hS2 hA hB hC hD h3 hC1 hC2 hR (ys := xs) (zs := xs) (us := xs) (by first | rfl | exact (rotF_triv (by omega) (by omega) (by omega)).symm) (by first | rfl | exact (mF_triv (by omega) (by omega) (by omega)).symm) (by first | rfl | exact (mF_triv (by omega) (by omega) (by omega)).symm)) ▸ r0.1, st55.extIn⟩
  try simp only [Bool.and_eq_true, Bool.or_eq_true, decide_eq_true_eq, decide_eq_false_iff_not, Bool.not_eq_true', Bool.and_eq_false_iff, Bool.or_eq_false_iff, Bool.not_eq_false', Int.not_lt, Int.not_le, beq_iff_eq, selB] at hc9
  refine wp_seq ?_
  refine region_St (bf := [0, 1]) (sp := [
      (det (fun k => v.ownBlock = some k ∨ w.heap.size ≤ k) 145 (.int .i64 ((a : Int)))),
        (det (fun k => v.ownBlock = some k ∨ w.heap.size ≤ k) 20 (.int .i64 ((a : Int))))])
    [(iown EditE 42 (fun k => v.ownBlock = some k ∨ w.heap.size ≤ k) v (xs))] mixed st32 (by kernel_rfl) ⟨r0, trivial⟩
    ⟨Ob.det rfl rfl rfl (fun _ a_ _ _ c => r_move rfl (c.eo e1 (by kernel_rfl))),
       Ob.det rfl rfl rfl (fun _ a_ _ _ c => r_assign rfl (c.ev 0 rfl rfl)),
     trivial⟩ ?_
  intro a57 w57 τ57 st57 f57
  replace e0 := f57.old e0 (by kernel_rfl)
  replace e1 := f57.old e1 (by kernel_rfl)
  replace e2 := f57.old e2 (by kernel_rfl)
  replace e3 := f57.old e3 (by kernel_rfl)
  replace e4 := f57.old e4 (by kernel_rfl)
  replace e18 := f57.old e18 (by kernel_rfl)
  replace e19 := f57.old e19 (by kernel_rfl)
  have e20 : get a57 20 = (.int .i64 ((a : Int))) := f57.v 1 rfl
  replace e21 := f57.old e21 (by kernel_rfl)
  replace r0 : ownR EditE 42 (xs) (τ57 0) v w57 := f57.iown 0 rfl rfl
  clear f57
  show Code.wp _ _ _ a57 w57
  refine region_St (bf := [0, 1]) (sp := [
      (det (fun k => v.ownBlock = some k ∨ w.heap.size ≤ k) 146 (.int .i64 ((m : Int)))),
        (det (fun k => v.ownBlock = some k ∨ w.heap.size ≤ k) 21 (.int .i64 ((m : Int))))])
    [(iown EditE 42 (fun k => v.ownBlock = some k ∨ w.heap.size ≤ k) v (xs))] mixed st57 (by kernel_rfl) ⟨r0, trivial⟩
    ⟨Ob.det rfl rfl rfl (fun _ a_ _ _ c => r_move rfl (c.eo e2 (by kernel_rfl))),
       Ob.det rfl rfl rfl (fun _ a_ _ _ c => r_assign rfl (c.ev 0 rfl rfl)),
     trivial⟩ ?_
  intro a58 w58 τ58 st58 f58
  replace e0 := f58.old e0 (by kernel_rfl)
  replace e1 := f58.old e1 (by kernel_rfl)
  replace e2 := f58.old e2 (by kernel_rfl)
  replace e3 := f58.old e3 (by kernel_rfl)
  replace e4 := f58.old e4 (by kernel_rfl)
  replace e18 := f58.old e18 (by kernel_rfl)
  replace e19 := f58.old e19 (by kernel_rfl)
  replace e20 := f58.old e20 (by kernel_rfl)
  have e21 : get a58 21 = (.int .i64 ((m : Int))) := f58.v 1 rfl
  replace r0 : ownR EditE 42 (xs) (τ58 0) v w58 := f58.iown 0 rfl rfl
  clear f58
  show Code.wp _ _ _ a58 w58
  refine wp_seq ?_
  refine region_St (bf := [0, 1, 3]) (sp := [
      (det (fun k => v.ownBlock = some k ∨ w.heap.size ≤ k) 147 (.int .i64 ((mid : Int) + (m : Int)))),
        (det (fun k => v.ownBlock = some k ∨ w.heap.size ≤ k) 148 (.int .i64 ((mid : Int) + (m : Int) - 1))),
        (det (fun k => v.ownBlock = some k ∨ w.heap.size ≤ k) 22 (.int .i64 ((mid : Int) + (m : Int) - 1)))])
    [(iown EditE 42 (fun k => v.ownBlock = some k ∨ w.heap.size ≤ k) v (xs))] mixed st58 (by kernel_rfl) ⟨r0, trivial⟩
    ⟨Ob.det rfl rfl rfl (fun _ a_ _ _ c => r_move rfl (c.eo e19 (by kernel_rfl))),
       Ob.det rfl rfl rfl (fun _ a_ _ _ c => r_sub rfl (c.ev 0 rfl rfl) rfl (by omega)),
       Ob.det rfl rfl rfl (fun _ a_ _ _ c => r_assign rfl (c.ev 1 rfl rfl)),
     trivial⟩ ?_
  intro a59 w59 τ59 st59 f59
  replace e0 := f59.old e0 (by kernel_rfl)
  replace e1 := f59.old e1 (by kernel_rfl)
  replace e2 := f59.old e2 (by kernel_rfl)
  replace e3 := f59.old e3 (by kernel_rfl)
  replace e4 := f59.old e4 (by kernel_rfl)
  replace e18 := f59.old e18 (by kernel_rfl)
  replace e19 := f59.old e19 (by kernel_rfl)
  replace e20 := f59.old e20 (by kernel_rfl)
  replace e21 := f59.old e21 (by kernel_rfl)
  have e22 : get a59 22 = (.int .i64 ((mid : Int) + (m : Int) - 1)) := f59.v 2 rfl
  replace r0 : ownR EditE 42 (xs) (τ59 0) v w59 := f59.iown 0 rfl rfl
  clear f59
  show Code.wp _ _ _ a59 w59
  refine wp_seq ?_
  refine wp_block ?_
  refine wp_loop (fun a_ w_ => ∃ (s r : Nat) (τ : Nat → Foot), (a ≤ s) ∧
        (s ≤ r) ∧
        (r ≤ m) ∧
        (s = a ∨ ltE (nth xs ((mid : Int) + (m : Int) - (s : Int))) (nth xs ((s : Int) - 1)) = false) ∧
        (r = m ∨ ltE (nth xs ((mid : Int) + (m : Int) - 1 - (r : Int))) (nth xs (r : Int)) = true) ∧
        St (fun k => v.ownBlock = some k ∨ w.heap.size ≤ k) w 220 a_ w_ τ ∧
        get a_ 20 = (.int .i64 ((s : Int))) ∧
        get a_ 21 = (.int .i64 ((r : Int))) ∧
        get a_ 0 = v ∧
        get a_ 1 = (.int .i64 ((a : Int))) ∧
        get a_ 2 = (.int .i64 ((m : Int))) ∧
        get a_ 3 = (.int .i64 ((b : Int))) ∧
        get a_ 4 = (.func (.func 40) #[] #[]) ∧
        get a_ 18 = (.int .i64 ((mid : Int))) ∧
        get a_ 19 = (.int .i64 ((mid : Int) + (m : Int))) ∧
        get a_ 22 = (.int .i64 ((mid : Int) + (m : Int) - 1)) ∧
        ownR EditE 42 (xs) (τ 0) v w_) (fun a_ _ => (intOf (get a_ 21)).toNat - (intOf (get a_ 20)).toNat) ?_ ?_
  · refine ⟨a, m, τ59, ?_, ?_, ?_, ?_, ?_, st59, (e20.trans (int_eq (by omega))), (e21.trans (int_eq (by omega))), e0, e1, e2, e3, e4, e18, e19, e22, r0⟩
    · omega
    · omega
    · omega
    · left; omega
    · left; omega
  intro a60 w60 hI
  obtain ⟨s, r, τ60, q0, q1, q2, q3, q4, st60, e20, e21, e0, e1, e2, e3, e4, e18, e19, e22, r0⟩ := hI
  have m20 := e20
  have m21 := e21
  refine wp_seq ?_
  refine wp_seq ?_
  refine region_St (bf := [0, 0, 3]) (sp := [
      (det (fun k => v.ownBlock = some k ∨ w.heap.size ≤ k) 149 (.int .i64 ((s : Int)))),
        (det (fun k => v.ownBlock = some k ∨ w.heap.size ≤ k) 150 (.int .i64 ((r : Int)))),
        (det (fun k => v.ownBlock = some k ∨ w.heap.size ≤ k) 151 (.bool (decide ((s : Int) < (r : Int)))))])
    [(iown EditE 42 (fun k => v.ownBlock = some k ∨ w.heap.size ≤ k) v (xs))] mixed st60 (by kernel_rfl) ⟨r0, trivial⟩
    ⟨Ob.det rfl rfl rfl (fun _ a_ _ _ c => r_move rfl (c.eo e20 (by kernel_rfl))),
       Ob.det rfl rfl rfl (fun _ a_ _ _ c => r_move rfl (c.eo e21 (by kernel_rfl))),
       Ob.det rfl rfl rfl (fun _ a_ _ _ c => r_lss rfl (c.ev 0 rfl rfl) (c.ev 1 rfl rfl)),
     trivial⟩ ?_
  intro a61 w61 τ61 st61 f61
  replace e0 := f61.old e0 (by kernel_rfl)
  replace e1 := f61.old e1 (by kernel_rfl)
  replace e2 := f61.old e2 (by kernel_rfl)
  replace e3 := f61.old e3 (by kernel_rfl)
  replace e4 := f61.old e4 (by kernel_rfl)
  replace e18 := f61.old e18 (by kernel_rfl)
  replace e19 := f61.old e19 (by kernel_rfl)
  replace e20 := f61.old e20 (by kernel_rfl)
  replace e21 := f61.old e21 (by kernel_rfl)
  replace e22 := f61.old e22 (by kernel_rfl)
  have e151 : get a61 151 = (.bool (decide ((s : Int) < (r : Int)))) := f61.v 2 rfl
  replace r0 : ownR EditE 42 (xs) (τ61 0) v w61 := f61.iown 0 rfl rfl
  clear f61
  show Code.wp _ _ _ a61 w61
  refine wp_cond_split (t := decide ((s : Int) < (r : Int))) e151 (fun hc19 => ?_) (fun hc19 => ?_)
  · try simp only [Bool.and_eq_true, Bool.or_eq_true, decide_eq_true_eq, decide_eq_false_iff_not, Bool.not_eq_true', Bool.and_eq_false_iff, Bool.or_eq_false_iff, Bool.not_eq_false', Int.not_lt, Int.not_le, beq_iff_eq, selB] at hc19
    refine wp_skip ?_
    show Code.wp _ _ _ a61 w61
    refine wp_block ?_
    refine wp_seq ?_
    refine region_St (bf := [0, 0, 3, 7, 15, 31, 63]) (sp := [
        (det (fun k => v.ownBlock = some k ∨ w.heap.size ≤ k) 152 (.int .i64 ((s : Int)))),
            (det (fun k => v.ownBlock = some k ∨ w.heap.size ≤ k) 153 (.int .i64 ((r : Int)))),
            (det (fun k => v.ownBlock = some k ∨ w.heap.size ≤ k) 154 (.int .i64 ((s : Int) + (r : Int)))),
            (det (fun k => v.ownBlock = some k ∨ w.heap.size ≤ k) 155 (.int .u64 ((s : Int) + (r : Int)))),
            (det (fun k => v.ownBlock = some k ∨ w.heap.size ≤ k) 156 (.int .u64 (((s : Int) + (r : Int)) / 2))),
            (det (fun k => v.ownBlock = some k ∨ w.heap.size ≤ k) 157 (.int .i64 (((s : Int) + (r : Int)) / 2))),
            (det (fun k => v.ownBlock = some k ∨ w.heap.size ≤ k) 23 (.int .i64 (((s : Int) + (r : Int)) / 2)))])
      [(iown EditE 42 (fun k => v.ownBlock = some k ∨ w.heap.size ≤ k) v (xs))] mixed st61 (by kernel_rfl) ⟨r0, trivial⟩
      ⟨Ob.det rfl rfl rfl (fun _ a_ _ _ c => r_move rfl (c.eo e20 (by kernel_rfl))),
           Ob.det rfl rfl rfl (fun _ a_ _ _ c => r_move rfl (c.eo e21 (by kernel_rfl))),
           Ob.det rfl rfl rfl (fun _ a_ _ _ c => r_add rfl (c.ev 0 rfl rfl) (c.ev 1 rfl rfl) (by omega)),
           Ob.det rfl rfl rfl (fun _ a_ _ _ c => r_convIn rfl Try.underlying3 Try.underlying50 (c.ev 2 rfl rfl) (by omega) (by omega) (by decide)),
           Ob.det rfl rfl rfl (fun _ a_ _ _ c => r_shr1 rfl (c.ev 3 rfl rfl) rfl),
           Ob.det rfl rfl rfl (fun _ a_ _ _ c => r_convIn rfl Try.underlying50 Try.underlying3 (c.ev 4 rfl rfl) (by omega) (by omega) (by decide)),
           Ob.det rfl rfl rfl (fun _ a_ _ _ c => r_assign rfl (c.ev 5 rfl rfl)),
       trivial⟩ ?_
    intro a62 w62 τ62 st62 f62
    replace e0 := f62.old e0 (by kernel_rfl)
    replace e1 := f62.old e1 (by kernel_rfl)
    replace e2 := f62.old e2 (by kernel_rfl)
    replace e3 := f62.old e3 (by kernel_rfl)
    replace e4 := f62.old e4 (by kernel_rfl)
    replace e18 := f62.old e18 (by kernel_rfl)
    replace e19 := f62.old e19 (by kernel_rfl)
    replace e20 := f62.old e20 (by kernel_rfl)
    replace e21 := f62.old e21 (by kernel_rfl)
    replace e22 := f62.old e22 (by kernel_rfl)
    have e23 : get a62 23 = (.int .i64 (((s : Int) + (r : Int)) / 2)) := f62.v 6 rfl
    replace e151 := f62.old e151 (by kernel_rfl)
    replace r0 : ownR EditE 42 (xs) (τ62 0) v w62 := f62.iown 0 rfl rfl
    clear f62
    obtain ⟨cc, hcc⟩ : ∃ x_ : Nat, ((s : Int) + (r : Int)) / 2 = (x_ : Int) := ⟨(s + r) / 2, by omega⟩
    replace e23 := e23.trans (int_eq hcc)
    show Code.wp _ _ _ a62 w62
    refine wp_seq ?_
    refine region_St (bf := [0, 0, 0, 0, 12, 30, 62, 0, 0, 384, 896, 2047, 4095, 8191]) (sp := [
        (det (fun k => v.ownBlock = some k ∨ w.heap.size ≤ k) 158 (.func (.func 40) #[] #[])),
            (det (fun k => v.ownBlock = some k ∨ w.heap.size ≤ k) 159 v),
            (det (fun k => v.ownBlock = some k ∨ w.heap.size ≤ k) 160 (.int .i64 ((mid : Int) + (m : Int) - 1))),
            (det (fun k => v.ownBlock = some k ∨ w.heap.size ≤ k) 161 (.int .i64 ((cc : Int)))),
            (det (fun k => v.ownBlock = some k ∨ w.heap.size ≤ k) 162 (.int .i64 ((mid : Int) + (m : Int) - 1 - (cc : Int)))),
            (det (fun k => v.ownBlock = some k ∨ w.heap.size ≤ k) 163 (.pointer (some ((ptrOf v).add (((mid : Int) + (m : Int) - 1 - (cc : Int) : Int).toNat * 3))))),
            (det (fun k => v.ownBlock = some k ∨ w.heap.size ≤ k) 164 (.agg #[(.int .i64 ((nth xs ((mid : Int) + (m : Int) - 1 - (cc : Int))).1)), (.int .i64 ((nth xs ((mid : Int) + (m : Int) - 1 - (cc : Int))).2.1)), (.string ((nth xs ((mid : Int) + (m : Int) - 1 - (cc : Int))).2.2))])),
            (det (fun k => v.ownBlock = some k ∨ w.heap.size ≤ k) 165 v),
            (det (fun k => v.ownBlock = some k ∨ w.heap.size ≤ k) 166 (.int .i64 ((cc : Int)))),
            (det (fun k => v.ownBlock = some k ∨ w.heap.size ≤ k) 167 (.pointer (some ((ptrOf v).add (((cc : Int) : Int).toNat * 3))))),
            (det (fun k => v.ownBlock = some k ∨ w.heap.size ≤ k) 168 (.agg #[(.int .i64 ((nth xs ((cc : Int))).1)), (.int .i64 ((nth xs ((cc : Int))).2.1)), (.string ((nth xs ((cc : Int))).2.2))])),
            (det (fun k => v.ownBlock = some k ∨ w.heap.size ≤ k) 169 (.int .i64 (cmpE (nth xs ((mid : Int) + (m : Int) - 1 - (cc : Int))) (nth xs ((cc : Int)))))),
            (det (fun k => v.ownBlock = some k ∨ w.heap.size ≤ k) 170 (.bool (decide (cmpE (nth xs ((mid : Int) + (m : Int) - 1 - (cc : Int))) (nth xs ((cc : Int))) < 0)))),
            (det (fun k => v.ownBlock = some k ∨ w.heap.size ≤ k) 171 (.bool (!(decide (cmpE (nth xs ((mid : Int) + (m : Int) - 1 - (cc : Int))) (nth xs ((cc : Int))) < 0)))))])
      [(iown EditE 42 (fun k => v.ownBlock = some k ∨ w.heap.size ≤ k) v (xs))] mixed st62 (by kernel_rfl) ⟨r0, trivial⟩
      ⟨Ob.det rfl rfl rfl (fun _ a_ _ _ c => r_move rfl (c.eo e4 (by kernel_rfl))),
           Ob.det rfl rfl rfl (fun _ a_ _ _ c => r_move rfl (c.eo e0 (by kernel_rfl))),
           Ob.det rfl rfl rfl (fun _ a_ _ _ c => r_move rfl (c.eo e22 (by kernel_rfl))),
           Ob.det rfl rfl rfl (fun _ a_ _ _ c => r_move rfl (c.eo e23 (by kernel_rfl))),
           Ob.det rfl rfl rfl (fun _ a_ _ _ c => r_sub rfl (c.ev 2 rfl rfl) (c.ev 3 rfl rfl) (by omega)),
           Ob.det rfl rfl rfl (fun _ a_ _ _ c => r_indexAddr rfl Try.underlying37 Try.sizeOf42 (c.ev 1 rfl rfl) r0.isSl (c.ev 4 rfl rfl) (by omega) (by omega)),
           Ob.det rfl rfl rfl (fun _ a_ _ _ c => r_loadN (vs := [(.int .i64 ((nth xs ((mid : Int) + (m : Int) - 1 - (cc : Int))).1)), (.int .i64 ((nth xs ((mid : Int) + (m : Int) - 1 - (cc : Int))).2.1)), (.string ((nth xs ((mid : Int) + (m : Int) - 1 - (cc : Int))).2.2))]) rfl Try.isAgg42 Try.sizeOf42 (c.ev 5 rfl rfl) rfl (fun _ _ hj => ((c.iown 0 rfl rfl (by kernel_rfl)).1.sl).elem (nth_some (by omega) (by omega)) hj)),
           Ob.det rfl rfl rfl (fun _ a_ _ _ c => r_move rfl (c.eo e0 (by kernel_rfl))),
           Ob.det rfl rfl rfl (fun _ a_ _ _ c => r_move rfl (c.eo e23 (by kernel_rfl))),
           Ob.det rfl rfl rfl (fun _ a_ _ _ c => r_indexAddr rfl Try.underlying37 Try.sizeOf42 (c.ev 7 rfl rfl) r0.isSl (c.ev 8 rfl rfl) (by omega) (by omega)),
           Ob.det rfl rfl rfl (fun _ a_ _ _ c => r_loadN (vs := [(.int .i64 ((nth xs ((cc : Int))).1)), (.int .i64 ((nth xs ((cc : Int))).2.1)), (.string ((nth xs ((cc : Int))).2.2))]) rfl Try.isAgg42 Try.sizeOf42 (c.ev 9 rfl rfl) rfl (fun _ _ hj => ((c.iown 0 rfl rfl (by kernel_rfl)).1.sl).elem (nth_some (by omega) (by omega)) hj)),
           Ob.call rfl rfl rfl (fun _ a_ _ _ c => ⟨_, _, (e_call2 rfl (c.ev 0 rfl rfl) Try.call40 (c.ev 6 rfl rfl) (c.ev 10 rfl rfl)), cmpE_c (nth xs ((mid : Int) + (m : Int) - 1 - (cc : Int))) (nth xs ((cc : Int))) _⟩),
           Ob.det rfl rfl rfl (fun _ a_ _ _ c => r_lss rfl (c.ev 11 rfl rfl) rfl),
           Ob.det rfl rfl rfl (fun _ a_ _ _ c => r_not rfl (c.ev 12 rfl rfl)),
       trivial⟩ ?_
    intro a63 w63 τ63 st63 f63
    replace e0 := f63.old e0 (by kernel_rfl)
    replace e1 := f63.old e1 (by kernel_rfl)
    replace e2 := f63.old e2 (by kernel_rfl)
    replace e3 := f63.old e3 (by kernel_rfl)
    replace e4 := f63.old e4 (by kernel_rfl)
    replace e18 := f63.old e18 (by kernel_rfl)
    replace e19 := f63.old e19 (by kernel_rfl)
    replace e20 := f63.old e20 (by kernel_rfl)
    replace e21 := f63.old e21 (by kernel_rfl)
    replace e22 := f63.old e22 (by kernel_rfl)
    replace e23 := f63.old e23 (by kernel_rfl)
    replace e151 := f63.old e151 (by kernel_rfl)
    have e171 : get a63 171 = (.bool (!(decide (cmpE (nth xs ((mid : Int) + (m : Int) - 1 - (cc : Int))) (nth xs ((cc : Int))) < 0)))) := f63.v 13 rfl
    replace r0 : ownR EditE 42 (xs) (τ63 0) v w63 := f63.iown 0 rfl rfl
    clear f63
    show Code.wp _ _ _ a63 w63
    refine wp_cond_split (t := !(decide (cmpE (nth xs ((mid : Int) + (m : Int) - 1 - (cc : Int))) (nth xs ((cc : Int))) < 0))) e171 (fun hc20 => ?_) (fun hc20 => ?_)
    · try simp only [Bool.and_eq_true, Bool.or_eq_true, decide_eq_true_eq, decide_eq_false_iff_not, Bool.not_eq_true', Bool.and_eq_false_iff, Bool.or_eq_false_iff, Bool.not_eq_false', Int.not_lt, Int.not_le, beq_iff_eq, selB] at hc20
      refine region_St (bf := [0, 1, 3]) (sp := [
          (det (fun k => v.ownBlock = some k ∨ w.heap.size ≤ k) 172 (.int .i64 ((cc : Int)))),
                (det (fun k => v.ownBlock = some k ∨ w.heap.size ≤ k) 173 (.int .i64 ((cc : Int) + 1))),
                (det (fun k => v.ownBlock = some k ∨ w.heap.size ≤ k) 20 (.int .i64 ((cc : Int) + 1)))])
        [(iown EditE 42 (fun k => v.ownBlock = some k ∨ w.heap.size ≤ k) v (xs))] mixed st63 (by kernel_rfl) ⟨r0, trivial⟩
        ⟨Ob.det rfl rfl rfl (fun _ a_ _ _ c => r_move rfl (c.eo e23 (by kernel_rfl))),
               Ob.det rfl rfl rfl (fun _ a_ _ _ c => r_add rfl (c.ev 0 rfl rfl) rfl (by omega)),
               Ob.det rfl rfl rfl (fun _ a_ _ _ c => r_assign rfl (c.ev 1 rfl rfl)),
         trivial⟩ ?_
      intro a64 w64 τ64 st64 f64
      replace e0 := f64.old e0 (by kernel_rfl)
      replace e1 := f64.old e1 (by kernel_rfl)
      replace e2 := f64.old e2 (by kernel_rfl)
      replace e3 := f64.old e3 (by kernel_rfl)
      replace e4 := f64.old e4 (by kernel_rfl)
      replace e18 := f64.old e18 (by kernel_rfl)
      replace e19 := f64.old e19 (by kernel_rfl)
      have e20 : get a64 20 = (.int .i64 ((cc : Int) + 1)) := f64.v 2 rfl
      replace e21 := f64.old e21 (by kernel_rfl)
      replace e22 := f64.old e22 (by kernel_rfl)
      replace e23 := f64.old e23 (by kernel_rfl)
      replace e151 := f64.old e151 (by kernel_rfl)
      replace e171 := f64.old e171 (by kernel_rfl)
      replace r0 : ownR EditE 42 (xs) (τ64 0) v w64 := f64.iown 0 rfl rfl
      clear f64
      show _
      refine ⟨⟨cc + 1, r, τ64, ?_, ?_, ?_, ?_, ?_, st64, (e20.trans (int_eq (by omega))), (e21.trans (int_eq (by omega))), e0, e1, e2, e3, e4, e18, e19, e22, r0⟩, ?_⟩
      · omega
      · omega
      · omega
      · first | exact q3 | (right; rw [show (mid : Int) + (m : Int) - (((cc + 1 : Nat) : Int)) = (mid : Int) + (m : Int) - 1 - (cc : Int) by omega, show (((cc + 1 : Nat) : Int) - 1) = (cc : Int) by omega]; exact (by simp only [ltE, decide_eq_false_iff_not, Int.not_lt]; assumption))
      · first | exact q4 | (right; exact (by simp only [ltE, decide_eq_true_eq]; assumption))
      · simp only [m20, m21, e20, e21, intOf]; omega
    try simp only [Bool.and_eq_true, Bool.or_eq_true, decide_eq_true_eq, decide_eq_false_iff_not, Bool.not_eq_true', Bool.and_eq_false_iff, Bool.or_eq_false_iff, Bool.not_eq_false', Int.not_lt, Int.not_le, beq_iff_eq, selB] at hc20
    refine region_St (bf := [0, 1]) (sp := [
        (det (fun k => v.ownBlock = some k ∨ w.heap.size ≤ k) 174 (.int .i64 ((cc : Int)))),
            (det (fun k => v.ownBlock = some k ∨ w.heap.size ≤ k) 21 (.int .i64 ((cc : Int))))])
      [(iown EditE 42 (fun k => v.ownBlock = some k ∨ w.heap.size ≤ k) v (xs))] mixed st63 (by kernel_rfl) ⟨r0, trivial⟩
      ⟨Ob.det rfl rfl rfl (fun _ a_ _ _ c => r_move rfl (c.eo e23 (by kernel_rfl))),
           Ob.det rfl rfl rfl (fun _ a_ _ _ c => r_assign rfl (c.ev 0 rfl rfl)),
       trivial⟩ ?_
    intro a65 w65 τ65 st65 f65
    replace e0 := f65.old e0 (by kernel_rfl)
    replace e1 := f65.old e1 (by kernel_rfl)
    replace e2 := f65.old e2 (by kernel_rfl)
    replace e3 := f65.old e3 (by kernel_rfl)
    replace e4 := f65.old e4 (by kernel_rfl)
    replace e18 := f65.old e18 (by kernel_rfl)
    replace e19 := f65.old e19 (by kernel_rfl)
    replace e20 := f65.old e20 (by kernel_rfl)
    have e21 : get a65 21 = (.int .i64 ((cc : Int))) := f65.v 1 rfl
    replace e22 := f65.old e22 (by kernel_rfl)
    replace e23 := f65.old e23 (by kernel_rfl)
    replace e151 := f65.old e151 (by kernel_rfl)
    replace e171 := f65.old e171 (by kernel_rfl)
    replace r0 : ownR EditE 42 (xs) (τ65 0) v w65 := f65.iown 0 rfl rfl
    clear f65
    show _
    refine ⟨⟨s, cc, τ65, ?_, ?_, ?_, ?_, ?_, st65, (e20.trans (int_eq (by omega))), (e21.trans (int_eq (by omega))), e0, e1, e2, e3, e4, e18, e19, e22, r0⟩, ?_⟩
    · omega
    · omega
    · omega
    · first | exact q3 | (right; rw [show (mid : Int) + (m : Int) - (((cc + 1 : Nat) : Int)) = (mid : Int) + (m : Int) - 1 - (cc : Int) by omega, show (((cc + 1 : Nat) : Int) - 1) = (cc : Int) by omega]; exact (by simp only [ltE, decide_eq_false_iff_not, Int.not_lt]; assumption))
    · first | exact q4 | (right; exact (by simp only [ltE, decide_eq_true_eq]; assumption))
    · simp only [m20, m21, e20, e21, intOf]; omega
  try simp only [Bool.and_eq_true, Bool.or_eq_true, decide_eq_true_eq, decide_eq_false_iff_not, Bool.not_eq_true', Bool.and_eq_false_iff, Bool.or_eq_false_iff, Bool.not_eq_false', Int.not_lt, Int.not_le, beq_iff_eq, selB] at hc19
  refine wp_exit ?_
  repeat (with_reducible refine then_exit ?_)
  refine exit_here ?_
  show Code.wp _ _ _ a61 w61
  refine wp_seq ?_
  refine region_St (bf := [0, 0, 3, 7]) (sp := [
      (det (fun k => v.ownBlock = some k ∨ w.heap.size ≤ k) 175 (.int .i64 ((mid : Int) + (m : Int)))),
        (det (fun k => v.ownBlock = some k ∨ w.heap.size ≤ k) 176 (.int .i64 ((s : Int)))),
        (det (fun k => v.ownBlock = some k ∨ w.heap.size ≤ k) 177 (.int .i64 ((mid : Int) + (m : Int) - (s : Int)))),
        (det (fun k => v.ownBlock = some k ∨ w.heap.size ≤ k) 24 (.int .i64 ((mid : Int) + (m : Int) - (s : Int))))])
    [(iown EditE 42 (fun k => v.ownBlock = some k ∨ w.heap.size ≤ k) v (xs))] mixed st61 (by kernel_rfl) ⟨r0, trivial⟩
    ⟨Ob.det rfl rfl rfl (fun _ a_ _ _ c => r_move rfl (c.eo e19 (by kernel_rfl))),
       Ob.det rfl rfl rfl (fun _ a_ _ _ c => r_move rfl (c.eo e20 (by kernel_rfl))),
       Ob.det rfl rfl rfl (fun _ a_ _ _ c => r_sub rfl (c.ev 0 rfl rfl) (c.ev 1 rfl rfl) (by omega)),
       Ob.det rfl rfl rfl (fun _ a_ _ _ c => r_assign rfl (c.ev 2 rfl rfl)),
     trivial⟩ ?_
  intro a66 w66 τ66 st66 f66
  replace e0 := f66.old e0 (by kernel_rfl)
  replace e1 := f66.old e1 (by kernel_rfl)
  replace e2 := f66.old e2 (by kernel_rfl)
  replace e3 := f66.old e3 (by kernel_rfl)
  replace e4 := f66.old e4 (by kernel_rfl)
  replace e18 := f66.old e18 (by kernel_rfl)
  replace e20 := f66.old e20 (by kernel_rfl)
  have e24 : get a66 24 = (.int .i64 ((mid : Int) + (m : Int) - (s : Int))) := f66.v 3 rfl
  replace r0 : ownR EditE 42 (xs) (τ66 0) v w66 := f66.iown 0 rfl rfl
  clear f66
  obtain rfl : s = r := by omega
  obtain ⟨e, he⟩ : ∃ x_ : Nat, (mid : Int) + (m : Int) - (s : Int) = (x_ : Int) := ⟨mid + m - s, by omega⟩
  replace e24 := e24.trans (int_eq he)
  have hA : a ≤ s := by omega
  have hB : s ≤ m := by omega
  have hC : m ≤ e := by omega
  have hD : e ≤ b := by omega
  have hR : s + e = mid + m := by omega
  have hC1 : s = a ∨ e = b ∨ ltE (nth xs (e : Int)) (nth xs ((s : Int) - 1)) = false := by
    rcases q3 with h_ | h_
    · first | (left; omega) | (right; left; omega)
    · right; right; rw [← he]; exact h_
  have hC2 : s = m ∨ e = m ∨ ltE (nth xs ((e : Int) - 1)) (nth xs (s : Int)) = true := by
    rcases q4 with h_ | h_
    · first | (left; omega) | (right; left; omega)
    · right; right; rw [show (e : Int) - 1 = (mid : Int) + (m : Int) - 1 - (s : Int) by omega]; exact h_
  show Code.wp _ _ _ a66 w66
  refine wp_seq ?_
  refine wp_seq ?_
  refine region_St (bf := [0, 0, 3, 7, 15, 15, 63, 127]) (sp := [
      (det (fun k => v.ownBlock = some k ∨ w.heap.size ≤ k) 178 (.int .i64 ((s : Int)))),
        (det (fun k => v.ownBlock = some k ∨ w.heap.size ≤ k) 179 (.int .i64 ((m : Int)))),
        (det (fun k => v.ownBlock = some k ∨ w.heap.size ≤ k) 180 (.bool (decide ((s : Int) < (m : Int))))),
        (det (fun k => v.ownBlock = some k ∨ w.heap.size ≤ k) 181 (.bool (decide ((s : Int) < (m : Int))))),
        (gdet (fun k => v.ownBlock = some k ∨ w.heap.size ≤ k) 182 ((decide ((s : Int) < (m : Int))) = true) (.int .i64 ((m : Int)))),
        (gdet (fun k => v.ownBlock = some k ∨ w.heap.size ≤ k) 183 ((decide ((s : Int) < (m : Int))) = true) (.int .i64 ((e : Int)))),
        (gdet (fun k => v.ownBlock = some k ∨ w.heap.size ≤ k) 184 ((decide ((s : Int) < (m : Int))) = true) (.bool (decide ((m : Int) < (e : Int))))),
        (det (fun k => v.ownBlock = some k ∨ w.heap.size ≤ k) 185 (.bool ((decide ((s : Int) < (m : Int))) && (decide ((m : Int) < (e : Int))))))])
    [(iown EditE 42 (fun k => v.ownBlock = some k ∨ w.heap.size ≤ k) v (xs))] mixed st66 (by kernel_rfl) ⟨r0, trivial⟩
    ⟨Ob.det rfl rfl rfl (fun _ a_ _ _ c => r_move rfl (c.eo e20 (by kernel_rfl))),
       Ob.det rfl rfl rfl (fun _ a_ _ _ c => r_move rfl (c.eo e2 (by kernel_rfl))),
       Ob.det rfl rfl rfl (fun _ a_ _ _ c => r_lss rfl (c.ev 0 rfl rfl) (c.ev 1 rfl rfl)),
       Ob.det rfl rfl rfl (fun _ a_ _ _ c => r_move rfl (c.ev 2 rfl rfl)),
       Ob.gdet rfl rfl rfl rfl (gi := 3) (tg := 181) rfl rfl Iff.rfl (fun _ a_ _ _ c hpc => r_move rfl (c.eo e2 (by kernel_rfl))),
       Ob.gdet rfl rfl rfl rfl (gi := 3) (tg := 181) rfl rfl Iff.rfl (fun _ a_ _ _ c hpc => r_move rfl (c.eo e24 (by kernel_rfl))),
       Ob.gdet rfl rfl rfl rfl (gi := 3) (tg := 181) rfl rfl Iff.rfl (fun _ a_ _ _ c hpc => r_lss rfl (c.eg 4 rfl rfl hpc) (c.eg 5 rfl rfl hpc)),
       Ob.det rfl rfl rfl (fun _ a_ _ _ c => r_and rfl (c.ev 3 rfl rfl) (fun h => (c.eg 6 rfl rfl h))),
     trivial⟩ ?_
  intro a67 w67 τ67 st67 f67
  replace e0 := f67.old e0 (by kernel_rfl)
  replace e1 := f67.old e1 (by kernel_rfl)
  replace e2 := f67.old e2 (by kernel_rfl)
  replace e3 := f67.old e3 (by kernel_rfl)
  replace e4 := f67.old e4 (by kernel_rfl)
  replace e18 := f67.old e18 (by kernel_rfl)
  replace e20 := f67.old e20 (by kernel_rfl)
  replace e24 := f67.old e24 (by kernel_rfl)
  have e185 : get a67 185 = (.bool ((decide ((s : Int) < (m : Int))) && (decide ((m : Int) < (e : Int))))) := f67.v 7 rfl
  replace r0 : ownR EditE 42 (xs) (τ67 0) v w67 := f67.iown 0 rfl rfl
  clear f67
  show Code.wp _ _ _ a67 w67
  refine wp_cond_split (t := (decide ((s : Int) < (m : Int))) && (decide ((m : Int) < (e : Int)))) e185 (fun hc21 => ?_) (fun hc21 => ?_)
  · try simp only [Bool.and_eq_true, Bool.or_eq_true, decide_eq_true_eq, decide_eq_false_iff_not, Bool.not_eq_true', Bool.and_eq_false_iff, Bool.or_eq_false_iff, Bool.not_eq_false', Int.not_lt, Int.not_le, beq_iff_eq, selB] at hc21
    refine region_St (bf := [0, 0, 0, 0, 0, 31]) (sp := [
        (det (fun k => v.ownBlock = some k ∨ w.heap.size ≤ k) 186 v),
            (det (fun k => v.ownBlock = some k ∨ w.heap.size ≤ k) 187 (.int .i64 ((s : Int)))),
            (det (fun k => v.ownBlock = some k ∨ w.heap.size ≤ k) 188 (.int .i64 ((m : Int)))),
            (det (fun k => v.ownBlock = some k ∨ w.heap.size ≤ k) 189 (.int .i64 ((e : Int)))),
            (det (fun k => v.ownBlock = some k ∨ w.heap.size ≤ k) 190 (.func (.func 40) #[] #[])),
            (own EditE 42 (fun k => v.ownBlock = some k ∨ w.heap.size ≤ k) 0 0 (rotF xs (s : Int).toNat (m : Int).toNat (e : Int).toNat))])
      [(iown EditE 42 (fun k => v.ownBlock = some k ∨ w.heap.size ≤ k) v (xs))] mixed st67 (by kernel_rfl) ⟨r0, trivial⟩
      ⟨Ob.det rfl rfl rfl (fun _ a_ _ _ c => r_move rfl (c.eo e0 (by kernel_rfl))),
           Ob.det rfl rfl rfl (fun _ a_ _ _ c => r_move rfl (c.eo e20 (by kernel_rfl))),
           Ob.det rfl rfl rfl (fun _ a_ _ _ c => r_move rfl (c.eo e2 (by kernel_rfl))),
           Ob.det rfl rfl rfl (fun _ a_ _ _ c => r_move rfl (c.eo e24 (by kernel_rfl))),
           Ob.det rfl rfl rfl (fun _ a_ _ _ c => r_move rfl (c.eo e4 (by kernel_rfl))),
           Ob.callIn rfl rfl rfl (by decide) (fun _ a_ _ _ c => ⟨_, _, (e_call5 rfl rfl Try.call48 (c.ev 0 rfl rfl) (c.ev 1 rfl rfl) (c.ev 2 rfl rfl) (c.ev 3 rfl rfl) (c.ev 4 rfl rfl)), c.old e0 (by kernel_rfl), c.iown 0 rfl rfl (by kernel_rfl), fun ho_ => editRot_c v xs (s : Int) (m : Int) (e : Int) _ ho_ (by omega) (by omega) (by omega) (by omega)⟩),
       trivial⟩ ?_
    intro a68 w68 τ68 st68 f68
    replace e0 := f68.old e0 (by kernel_rfl)
    replace e1 := f68.old e1 (by kernel_rfl)
    replace e3 := f68.old e3 (by kernel_rfl)
    replace e4 := f68.old e4 (by kernel_rfl)
    replace e18 := f68.old e18 (by kernel_rfl)
    replace e20 := f68.old e20 (by kernel_rfl)
    replace e24 := f68.old e24 (by kernel_rfl)
    have r0 : ownR EditE 42 (rotF xs (s : Int).toNat (m : Int).toNat (e : Int).toNat) (τ68 0) v w68 := f68.rown 5 rfl rfl e0
    clear f68
    show Code.wp _ _ _ a68 w68
    refine wp_seq ?_
    refine wp_seq ?_
    refine region_St (bf := [0, 0, 3, 7, 15, 15, 63, 127]) (sp := [
        (det (fun k => v.ownBlock = some k ∨ w.heap.size ≤ k) 192 (.int .i64 ((a : Int)))),
            (det (fun k => v.ownBlock = some k ∨ w.heap.size ≤ k) 193 (.int .i64 ((s : Int)))),
            (det (fun k => v.ownBlock = some k ∨ w.heap.size ≤ k) 194 (.bool (decide ((a : Int) < (s : Int))))),
            (det (fun k => v.ownBlock = some k ∨ w.heap.size ≤ k) 195 (.bool (decide ((a : Int) < (s : Int))))),
            (gdet (fun k => v.ownBlock = some k ∨ w.heap.size ≤ k) 196 ((decide ((a : Int) < (s : Int))) = true) (.int .i64 ((s : Int)))),
            (gdet (fun k => v.ownBlock = some k ∨ w.heap.size ≤ k) 197 ((decide ((a : Int) < (s : Int))) = true) (.int .i64 ((mid : Int)))),
            (gdet (fun k => v.ownBlock = some k ∨ w.heap.size ≤ k) 198 ((decide ((a : Int) < (s : Int))) = true) (.bool (decide ((s : Int) < (mid : Int))))),
            (det (fun k => v.ownBlock = some k ∨ w.heap.size ≤ k) 199 (.bool ((decide ((a : Int) < (s : Int))) && (decide ((s : Int) < (mid : Int))))))])
      [(iown EditE 42 (fun k => v.ownBlock = some k ∨ w.heap.size ≤ k) v (rotF xs (s : Int).toNat (m : Int).toNat (e : Int).toNat))] mixed st68 (by kernel_rfl) ⟨r0, trivial⟩
      ⟨Ob.det rfl rfl rfl (fun _ a_ _ _ c => r_move rfl (c.eo e1 (by kernel_rfl))),
           Ob.det rfl rfl rfl (fun _ a_ _ _ c => r_move rfl (c.eo e20 (by kernel_rfl))),
           Ob.det rfl rfl rfl (fun _ a_ _ _ c => r_lss rfl (c.ev 0 rfl rfl) (c.ev 1 rfl rfl)),
           Ob.det rfl rfl rfl (fun _ a_ _ _ c => r_move rfl (c.ev 2 rfl rfl)),
           Ob.gdet rfl rfl rfl rfl (gi := 3) (tg := 195) rfl rfl Iff.rfl (fun _ a_ _ _ c hpc => r_move rfl (c.eo e20 (by kernel_rfl))),
           Ob.gdet rfl rfl rfl rfl (gi := 3) (tg := 195) rfl rfl Iff.rfl (fun _ a_ _ _ c hpc => r_move rfl (c.eo e18 (by kernel_rfl))),
           Ob.gdet rfl rfl rfl rfl (gi := 3) (tg := 195) rfl rfl Iff.rfl (fun _ a_ _ _ c hpc => r_lss rfl (c.eg 4 rfl rfl hpc) (c.eg 5 rfl rfl hpc)),
           Ob.det rfl rfl rfl (fun _ a_ _ _ c => r_and rfl (c.ev 3 rfl rfl) (fun h => (c.eg 6 rfl rfl h))),
       trivial⟩ ?_
    intro a69 w69 τ69 st69 f69
    replace e0 := f69.old e0 (by kernel_rfl)
    replace e1 := f69.old e1 (by kernel_rfl)
    replace e3 := f69.old e3 (by kernel_rfl)
    replace e4 := f69.old e4 (by kernel_rfl)
    replace e18 := f69.old e18 (by kernel_rfl)
    replace e20 := f69.old e20 (by kernel_rfl)
    replace e24 := f69.old e24 (by kernel_rfl)
    have e199 : get a69 199 = (.bool ((decide ((a : Int) < (s : Int))) && (decide ((s : Int) < (mid : Int))))) := f69.v 7 rfl
    replace r0 : ownR EditE 42 (rotF xs (s : Int).toNat (m : Int).toNat (e : Int).toNat) (τ69 0) v w69 := f69.iown 0 rfl rfl
    clear f69
    show Code.wp _ _ _ a69 w69
    refine wp_cond_split (t := (decide ((a : Int) < (s : Int))) && (decide ((s : Int) < (mid : Int)))) e199 (fun hc22 => ?_) (fun hc22 => ?_)
    · try simp only [Bool.and_eq_true, Bool.or_eq_true, decide_eq_true_eq, decide_eq_false_iff_not, Bool.not_eq_true', Bool.and_eq_false_iff, Bool.or_eq_false_iff, Bool.not_eq_false', Int.not_lt, Int.not_le, beq_iff_eq, selB] at hc22
      refine region_St (bf := [0, 0, 0, 0, 0, 31]) (sp := [
          (det (fun k => v.ownBlock = some k ∨ w.heap.size ≤ k) 200 v),
                (det (fun k => v.ownBlock = some k ∨ w.heap.size ≤ k) 201 (.int .i64 ((a : Int)))),
                (det (fun k => v.ownBlock = some k ∨ w.heap.size ≤ k) 202 (.int .i64 ((s : Int)))),
                (det (fun k => v.ownBlock = some k ∨ w.heap.size ≤ k) 203 (.int .i64 ((mid : Int)))),
                (det (fun k => v.ownBlock = some k ∨ w.heap.size ≤ k) 204 (.func (.func 40) #[] #[])),
                (own EditE 42 (fun k => v.ownBlock = some k ∨ w.heap.size ≤ k) 0 0 (mF ltE (rotF xs (s : Int).toNat (m : Int).toNat (e : Int).toNat) a s mid))])
        [(iown EditE 42 (fun k => v.ownBlock = some k ∨ w.heap.size ≤ k) v (rotF xs (s : Int).toNat (m : Int).toNat (e : Int).toNat))] mixed st69 (by kernel_rfl) ⟨r0, trivial⟩
        ⟨Ob.det rfl rfl rfl (fun _ a_ _ _ c => r_move rfl (c.eo e0 (by kernel_rfl))),
               Ob.det rfl rfl rfl (fun _ a_ _ _ c => r_move rfl (c.eo e1 (by kernel_rfl))),
               Ob.det rfl rfl rfl (fun _ a_ _ _ c => r_move rfl (c.eo e20 (by kernel_rfl))),
               Ob.det rfl rfl rfl (fun _ a_ _ _ c => r_move rfl (c.eo e18 (by kernel_rfl))),
               Ob.det rfl rfl rfl (fun _ a_ _ _ c => r_move rfl (c.eo e4 (by kernel_rfl))),
               Ob.callIn rfl rfl rfl (by decide) (fun _ a_ _ _ c => ⟨_, _, (e_call5 rfl rfl Try.call46 (c.ev 0 rfl rfl) (c.ev 1 rfl rfl) (c.ev 2 rfl rfl) (c.ev 3 rfl rfl) (c.ev 4 rfl rfl)), c.old e0 (by kernel_rfl), c.iown 0 rfl rfl (by kernel_rfl), fun ho_ => ih v (rotF xs (s : Int).toNat (m : Int).toNat (e : Int).toNat) a s mid _ ho_ (by omega) (by omega) (by (try rw [mF_len (by omega) (by omega) (by (try rw [rotF_len (by omega) (by omega) (by omega)]); omega)]); (try rw [rotF_len (by omega) (by omega) (by omega)]); omega) (by (try rw [mF_len (by omega) (by omega) (by (try rw [rotF_len (by omega) (by omega) (by omega)]); omega)]); (try rw [rotF_len (by omega) (by omega) (by omega)]); omega) (by omega) (sym_pre1 hS1 hS2 hA hB hC hD h3 hR (ys := rotF xs (s : Int).toNat (m : Int).toNat (e : Int).toNat) (by first | rfl | exact (rotF_triv (by omega) (by omega) (by omega)).symm)).1 (sym_pre1 hS1 hS2 hA hB hC hD h3 hR (ys := rotF xs (s : Int).toNat (m : Int).toNat (e : Int).toNat) (by first | rfl | exact (rotF_triv (by omega) (by omega) (by omega)).symm)).2⟩),
         trivial⟩ ?_
      intro a70 w70 τ70 st70 f70
      replace e0 := f70.old e0 (by kernel_rfl)
      replace e3 := f70.old e3 (by kernel_rfl)
      replace e4 := f70.old e4 (by kernel_rfl)
      replace e18 := f70.old e18 (by kernel_rfl)
      replace e24 := f70.old e24 (by kernel_rfl)
      have r0 : ownR EditE 42 (mF ltE (rotF xs (s : Int).toNat (m : Int).toNat (e : Int).toNat) a s mid) (τ70 0) v w70 := f70.rown 5 rfl rfl e0
      clear f70
      show Code.wp _ _ _ a70 w70
      refine wp_seq ?_
      refine region_St (bf := [0, 0, 3, 7, 15, 15, 63, 127]) (sp := [
          (det (fun k => v.ownBlock = some k ∨ w.heap.size ≤ k) 206 (.int .i64 ((mid : Int)))),
                (det (fun k => v.ownBlock = some k ∨ w.heap.size ≤ k) 207 (.int .i64 ((e : Int)))),
                (det (fun k => v.ownBlock = some k ∨ w.heap.size ≤ k) 208 (.bool (decide ((mid : Int) < (e : Int))))),
                (det (fun k => v.ownBlock = some k ∨ w.heap.size ≤ k) 209 (.bool (decide ((mid : Int) < (e : Int))))),
                (gdet (fun k => v.ownBlock = some k ∨ w.heap.size ≤ k) 210 ((decide ((mid : Int) < (e : Int))) = true) (.int .i64 ((e : Int)))),
                (gdet (fun k => v.ownBlock = some k ∨ w.heap.size ≤ k) 211 ((decide ((mid : Int) < (e : Int))) = true) (.int .i64 ((b : Int)))),
                (gdet (fun k => v.ownBlock = some k ∨ w.heap.size ≤ k) 212 ((decide ((mid : Int) < (e : Int))) = true) (.bool (decide ((e : Int) < (b : Int))))),
                (det (fun k => v.ownBlock = some k ∨ w.heap.size ≤ k) 213 (.bool ((decide ((mid : Int) < (e : Int))) && (decide ((e : Int) < (b : Int))))))])
        [(iown EditE 42 (fun k => v.ownBlock = some k ∨ w.heap.size ≤ k) v (mF ltE (rotF xs (s : Int).toNat (m : Int).toNat (e : Int).toNat) a s mid))] mixed st70 (by kernel_rfl) ⟨r0, trivial⟩
        ⟨Ob.det rfl rfl rfl (fun _ a_ _ _ c => r_move rfl (c.eo e18 (by kernel_rfl))),
               Ob.det rfl rfl rfl (fun _ a_ _ _ c => r_move rfl (c.eo e24 (by kernel_rfl))),
               Ob.det rfl rfl rfl (fun _ a_ _ _ c => r_lss rfl (c.ev 0 rfl rfl) (c.ev 1 rfl rfl)),
               Ob.det rfl rfl rfl (fun _ a_ _ _ c => r_move rfl (c.ev 2 rfl rfl)),
               Ob.gdet rfl rfl rfl rfl (gi := 3) (tg := 209) rfl rfl Iff.rfl (fun _ a_ _ _ c hpc => r_move rfl (c.eo e24 (by kernel_rfl))),
               Ob.gdet rfl rfl rfl rfl (gi := 3) (tg := 209) rfl rfl Iff.rfl (fun _ a_ _ _ c hpc => r_move rfl (c.eo e3 (by kernel_rfl))),
               Ob.gdet rfl rfl rfl rfl (gi := 3) (tg := 209) rfl rfl Iff.rfl (fun _ a_ _ _ c hpc => r_lss rfl (c.eg 4 rfl rfl hpc) (c.eg 5 rfl rfl hpc)),
               Ob.det rfl rfl rfl (fun _ a_ _ _ c => r_and rfl (c.ev 3 rfl rfl) (fun h => (c.eg 6 rfl rfl h))),
         trivial⟩ ?_
      intro a71 w71 τ71 st71 f71
      replace e0 := f71.old e0 (by kernel_rfl)
      replace e3 := f71.old e3 (by kernel_rfl)
      replace e4 := f71.old e4 (by kernel_rfl)
      replace e18 := f71.old e18 (by kernel_rfl)
      replace e24 := f71.old e24 (by kernel_rfl)
      have e213 : get a71 213 = (.bool ((decide ((mid : Int) < (e : Int))) && (decide ((e : Int) < (b : Int))))) := f71.v 7 rfl
      replace r0 : ownR EditE 42 (mF ltE (rotF xs (s : Int).toNat (m : Int).toNat (e : Int).toNat) a s mid) (τ71 0) v w71 := f71.iown 0 rfl rfl
      clear f71
      show Code.wp _ _ _ a71 w71
      refine wp_cond_split (t := (decide ((mid : Int) < (e : Int))) && (decide ((e : Int) < (b : Int)))) e213 (fun hc23 => ?_) (fun hc23 => ?_)
      · try simp only [Bool.and_eq_true, Bool.or_eq_true, decide_eq_true_eq, decide_eq_false_iff_not, Bool.not_eq_true', Bool.and_eq_false_iff, Bool.or_eq_false_iff, Bool.not_eq_false', Int.not_lt, Int.not_le, beq_iff_eq, selB] at hc23
        refine region_St (bf := [0, 0, 0, 0, 0, 31]) (sp := [
            (det (fun k => v.ownBlock = some k ∨ w.heap.size ≤ k) 214 v),
                    (det (fun k => v.ownBlock = some k ∨ w.heap.size ≤ k) 215 (.int .i64 ((mid : Int)))),
                    (det (fun k => v.ownBlock = some k ∨ w.heap.size ≤ k) 216 (.int .i64 ((e : Int)))),
                    (det (fun k => v.ownBlock = some k ∨ w.heap.size ≤ k) 217 (.int .i64 ((b : Int)))),
                    (det (fun k => v.ownBlock = some k ∨ w.heap.size ≤ k) 218 (.func (.func 40) #[] #[])),
                    (own EditE 42 (fun k => v.ownBlock = some k ∨ w.heap.size ≤ k) 0 0 (mF ltE (mF ltE (rotF xs (s : Int).toNat (m : Int).toNat (e : Int).toNat) a s mid) mid e b))])
          [(iown EditE 42 (fun k => v.ownBlock = some k ∨ w.heap.size ≤ k) v (mF ltE (rotF xs (s : Int).toNat (m : Int).toNat (e : Int).toNat) a s mid))] mixed st71 (by kernel_rfl) ⟨r0, trivial⟩
          ⟨Ob.det rfl rfl rfl (fun _ a_ _ _ c => r_move rfl (c.eo e0 (by kernel_rfl))),
                   Ob.det rfl rfl rfl (fun _ a_ _ _ c => r_move rfl (c.eo e18 (by kernel_rfl))),
                   Ob.det rfl rfl rfl (fun _ a_ _ _ c => r_move rfl (c.eo e24 (by kernel_rfl))),
                   Ob.det rfl rfl rfl (fun _ a_ _ _ c => r_move rfl (c.eo e3 (by kernel_rfl))),
                   Ob.det rfl rfl rfl (fun _ a_ _ _ c => r_move rfl (c.eo e4 (by kernel_rfl))),
                   Ob.callIn rfl rfl rfl (by decide) (fun _ a_ _ _ c => ⟨_, _, (e_call5 rfl rfl Try.call46 (c.ev 0 rfl rfl) (c.ev 1 rfl rfl) (c.ev 2 rfl rfl) (c.ev 3 rfl rfl) (c.ev 4 rfl rfl)), c.old e0 (by kernel_rfl), c.iown 0 rfl rfl (by kernel_rfl), fun ho_ => ih v (mF ltE (rotF xs (s : Int).toNat (m : Int).toNat (e : Int).toNat) a s mid) mid e b _ ho_ (by omega) (by omega) (by (try rw [mF_len (by omega) (by omega) (by (try rw [rotF_len (by omega) (by omega) (by omega)]); omega)]); (try rw [rotF_len (by omega) (by omega) (by omega)]); omega) (by (try rw [mF_len (by omega) (by omega) (by (try rw [rotF_len (by omega) (by omega) (by omega)]); omega)]); (try rw [rotF_len (by omega) (by omega) (by omega)]); omega) (by omega) (sym_pre2 hS1 hS2 hA hB hC hD h3 hR (ys := rotF xs (s : Int).toNat (m : Int).toNat (e : Int).toNat) (zs := mF ltE (rotF xs (s : Int).toNat (m : Int).toNat (e : Int).toNat) a s mid) (by first | rfl | exact (rotF_triv (by omega) (by omega) (by omega)).symm) (by first | rfl | exact (mF_triv (by omega) (by omega) (by omega)).symm)).1 (sym_pre2 hS1 hS2 hA hB hC hD h3 hR (ys := rotF xs (s : Int).toNat (m : Int).toNat (e : Int).toNat) (zs := mF ltE (rotF xs (s : Int).toNat (m : Int).toNat (e : Int).toNat) a s mid) (by first | rfl | exact (rotF_triv (by omega) (by omega) (by omega)).symm) (by first | rfl | exact (mF_triv (by omega) (by omega) (by omega)).symm)).2⟩),
           trivial⟩ ?_
        intro a72 w72 τ72 st72 f72
        replace e0 := f72.old e0 (by kernel_rfl)
        have r0 : ownR EditE 42 (mF ltE (mF ltE (rotF xs (s : Int).toNat (m : Int).toNat (e : Int).toNat) a s mid) mid e b) (τ72 0) v w72 := f72.rown 5 rfl rfl e0
        clear f72
        refine end0 (fn := Try.f46) rfl st72.defers ?_
        exact ⟨rfl, (sym_final ltE_swo hS1 hS2 hA hB hC hD h3 hC1 hC2 hR (ys := rotF xs (s : Int).toNat (m : Int).toNat (e : Int).toNat) (zs := mF ltE (rotF xs (s : Int).toNat (m : Int).toNat (e : Int).toNat) a s mid) (us := mF ltE (mF ltE (rotF xs (s : Int).toNat (m : Int).toNat (e : Int).toNat) a s mid) mid e b) (by first | rfl | exact (rotF_triv (by omega) (by omega) (by omega)).symm) (by first | rfl | exact (mF_triv (by omega) (by omega) (by omega)).symm) (by first | rfl | exact (mF_triv (by omega) (by omega) (by omega)).symm)) ▸ r0.1, st72.extIn⟩
      try simp only [Bool.and_eq_true, Bool.or_eq_true, decide_eq_true_eq, decide_eq_false_iff_not, Bool.not_eq_true', Bool.and_eq_false_iff, Bool.or_eq_false_iff, Bool.not_eq_false', Int.not_lt, Int.not_le, beq_iff_eq, selB] at hc23
      refine wp_skip ?_
      refine end0 (fn := Try.f46) rfl st71.defers ?_
      exact ⟨rfl, (sym_final ltE_swo hS1 hS2 hA hB hC hD h3 hC1 hC2 hR (ys := rotF xs (s : Int).toNat (m : Int).toNat (e : Int).toNat) (zs := mF ltE (rotF xs (s : Int).toNat (m : Int).toNat (e : Int).toNat) a s mid) (us := mF ltE (rotF xs (s : Int).toNat (m : Int).toNat (e : Int).toNat) a s mid) (by first | rfl | exact (rotF_triv (by omega) (by omega) (by omega)).symm) (by first | rfl | exact (mF_triv (by omega) (by omega) (by omega)).symm) (by first | rfl | exact (mF_triv (by omega) (by omega) (by omega)).symm)) ▸ r0.1, st71.extIn⟩
    try simp only [Bool.and_eq_true, Bool.or_eq_true, decide_eq_true_eq, decide_eq_false_iff_not, Bool.not_eq_true', Bool.and_eq_false_iff, Bool.or_eq_false_iff, Bool.not_eq_false', Int.not_lt, Int.not_le, beq_iff_eq, selB] at hc22
    refine wp_skip ?_
    show Code.wp _ _ _ a69 w69
    refine wp_seq ?_
    refine region_St (bf := [0, 0, 3, 7, 15, 15, 63, 127]) (sp := [
        (det (fun k => v.ownBlock = some k ∨ w.heap.size ≤ k) 206 (.int .i64 ((mid : Int)))),
            (det (fun k => v.ownBlock = some k ∨ w.heap.size ≤ k) 207 (.int .i64 ((e : Int)))),
            (det (fun k => v.ownBlock = some k ∨ w.heap.size ≤ k) 208 (.bool (decide ((mid : Int) < (e : Int))))),
            (det (fun k => v.ownBlock = some k ∨ w.heap.size ≤ k) 209 (.bool (decide ((mid : Int) < (e : Int))))),
            (gdet (fun k => v.ownBlock = some k ∨ w.heap.size ≤ k) 210 ((decide ((mid : Int) < (e : Int))) = true) (.int .i64 ((e : Int)))),
            (gdet (fun k => v.ownBlock = some k ∨ w.heap.size ≤ k) 211 ((decide ((mid : Int) < (e : Int))) = true) (.int .i64 ((b : Int)))),
            (gdet (fun k => v.ownBlock = some k ∨ w.heap.size ≤ k) 212 ((decide ((mid : Int) < (e : Int))) = true) (.bool (decide ((e : Int) < (b : Int))))),
            (det (fun k => v.ownBlock = some k ∨ w.heap.size ≤ k) 213 (.bool ((decide ((mid : Int) < (e : Int))) && (decide ((e : Int) < (b : Int))))))])
      [(iown EditE 42 (fun k => v.ownBlock = some k ∨ w.heap.size ≤ k) v (rotF xs (s : Int).toNat (m : Int).toNat (e : Int).toNat))] mixed st69 (by kernel_rfl) ⟨r0, trivial⟩
      ⟨Ob.det rfl rfl rfl (fun _ a_ _ _ c => r_move rfl (c.eo e18 (by kernel_rfl))),
           Ob.det rfl rfl rfl (fun _ a_ _ _ c => r_move rfl (c.eo e24 (by kernel_rfl))),
           Ob.det rfl rfl rfl (fun _ a_ _ _ c => r_lss rfl (c.ev 0 rfl rfl) (c.ev 1 rfl rfl)),
           Ob.det rfl rfl rfl (fun _ a_ _ _ c => r_move rfl (c.ev 2 rfl rfl)),
           Ob.gdet rfl rfl rfl rfl (gi := 3) (tg := 209) rfl rfl Iff.rfl (fun _ a_ _ _ c hpc => r_move rfl (c.eo e24 (by kernel_rfl))),
           Ob.gdet rfl rfl rfl rfl (gi := 3) (tg := 209) rfl rfl Iff.rfl (fun _ a_ _ _ c hpc => r_move rfl (c.eo e3 (by kernel_rfl))),
           Ob.gdet rfl rfl rfl rfl (gi := 3) (tg := 209) rfl rfl Iff.rfl (fun _ a_ _ _ c hpc => r_lss rfl (c.eg 4 rfl rfl hpc) (c.eg 5 rfl rfl hpc)),
           Ob.det rfl rfl rfl (fun _ a_ _ _ c => r_and rfl (c.ev 3 rfl rfl) (fun h => (c.eg 6 rfl rfl h))),
       trivial⟩ ?_
    intro a73 w73 τ73 st73 f73
    replace e0 := f73.old e0 (by kernel_rfl)
    replace e3 := f73.old e3 (by kernel_rfl)
    replace e4 := f73.old e4 (by kernel_rfl)
    replace e18 := f73.old e18 (by kernel_rfl)
    replace e24 := f73.old e24 (by kernel_rfl)
    have e213 : get a73 213 = (.bool ((decide ((mid : Int) < (e : Int))) && (decide ((e : Int) < (b : Int))))) := f73.v 7 rfl
    replace r0 : ownR EditE 42 (rotF xs (s : Int).toNat (m : Int).toNat (e : Int).toNat) (τ73 0) v w73 := f73.iown 0 rfl rfl
    clear f73
    show Code.wp _ _ _ a73 w73
    refine wp_cond_split (t := (decide ((mid : Int) < (e : Int))) && (decide ((e : Int) < (b : Int)))) e213 (fun hc24 => ?_) (fun hc24 => ?_)
    · try simp only [Bool.and_eq_true, Bool.or_eq_true, decide_eq_true_eq, decide_eq_false_iff_not, Bool.not_eq_true', Bool.and_eq_false_iff, Bool.or_eq_false_iff, Bool.not_eq_false', Int.not_lt, Int.not_le, beq_iff_eq, selB] at hc24
      refine region_St (bf := [0, 0, 0, 0, 0, 31]) (sp := [
          (det (fun k => v.ownBlock = some k ∨ w.heap.size ≤ k) 214 v),
                (det (fun k => v.ownBlock = some k ∨ w.heap.size ≤ k) 215 (.int .i64 ((mid : Int)))),
                (det (fun k => v.ownBlock = some k ∨ w.heap.size ≤ k) 216 (.int .i64 ((e : Int)))),
                (det (fun k => v.ownBlock = some k ∨ w.heap.size ≤ k) 217 (.int .i64 ((b : Int)))),
                (det (fun k => v.ownBlock = some k ∨ w.heap.size ≤ k) 218 (.func (.func 40) #[] #[])),
                (own EditE 42 (fun k => v.ownBlock = some k ∨ w.heap.size ≤ k) 0 0 (mF ltE (rotF xs (s : Int).toNat (m : Int).toNat (e : Int).toNat) mid e b))])
        [(iown EditE 42 (fun k => v.ownBlock = some k ∨ w.heap.size ≤ k) v (rotF xs (s : Int).toNat (m : Int).toNat (e : Int).toNat))] mixed st73 (by kernel_rfl) ⟨r0, trivial⟩
        ⟨Ob.det rfl rfl rfl (fun _ a_ _ _ c => r_move rfl (c.eo e0 (by kernel_rfl))),
               Ob.det rfl rfl rfl (fun _ a_ _ _ c => r_move rfl (c.eo e18 (by kernel_rfl))),
               Ob.det rfl rfl rfl (fun _ a_ _ _ c => r_move rfl (c.eo e24 (by kernel_rfl))),
               Ob.det rfl rfl rfl (fun _ a_ _ _ c => r_move rfl (c.eo e3 (by kernel_rfl))),
               Ob.det rfl rfl rfl (fun _ a_ _ _ c => r_move rfl (c.eo e4 (by kernel_rfl))),
               Ob.callIn rfl rfl rfl (by decide) (fun _ a_ _ _ c => ⟨_, _, (e_call5 rfl rfl Try.call46 (c.ev 0 rfl rfl) (c.ev 1 rfl rfl) (c.ev 2 rfl rfl) (c.ev 3 rfl rfl) (c.ev 4 rfl rfl)), c.old e0 (by kernel_rfl), c.iown 0 rfl rfl (by kernel_rfl), fun ho_ => ih v (rotF xs (s : Int).toNat (m : Int).toNat (e : Int).toNat) mid e b _ ho_ (by omega) (by omega) (by (try rw [mF_len (by omega) (by omega) (by (try rw [rotF_len (by omega) (by omega) (by omega)]); omega)]); (try rw [rotF_len (by omega) (by omega) (by omega)]); omega) (by (try rw [mF_len (by omega) (by omega) (by (try rw [rotF_len (by omega) (by omega) (by omega)]); omega)]); (try rw [rotF_len (by omega) (by omega) (by omega)]); omega) (by omega) (sym_pre2 hS1 hS2 hA hB hC hD h3 hR (ys := rotF xs (s : Int).toNat (m : Int).toNat (e : Int).toNat) (zs := rotF xs (s : Int).toNat (m : Int).toNat (e : Int).toNat) (by first | rfl | exact (rotF_triv (by omega) (by omega) (by omega)).symm) (by first | rfl | exact (mF_triv (by omega) (by omega) (by omega)).symm)).1 (sym_pre2 hS1 hS2 hA hB hC hD h3 hR (ys := rotF xs (s : Int).toNat (m : Int).toNat (e : Int).toNat) (zs := rotF xs (s : Int).toNat (m : Int).toNat (e : Int).toNat) (by first | rfl | exact (rotF_triv (by omega) (by omega) (by omega)).symm) (by first | rfl | exact (mF_triv (by omega) (by omega) (by omega)).symm)).2⟩),
         trivial⟩ ?_
      intro a74 w74 τ74 st74 f74
      replace e0 := f74.old e0 (by kernel_rfl)
      have r0 : ownR EditE 42 (mF ltE (rotF xs (s : Int).toNat (m : Int).toNat (e : Int).toNat) mid e b) (τ74 0) v w74 := f74.rown 5 rfl rfl e0
      clear f74
      refine end0 (fn := Try.f46) rfl st74.defers ?_
      exact ⟨rfl, (sym_final ltE_swo hS1 hS2 hA hB hC hD h3 hC1 hC2 hR (ys := rotF xs (s : Int).toNat (m : Int).toNat (e : Int).toNat) (zs := rotF xs (s : Int).toNat (m : Int).toNat (e : Int).toNat) (us := mF ltE (rotF xs (s : Int).toNat (m : Int).toNat (e : Int).toNat) mid e b) (by first | rfl | exact (rotF_triv (by omega) (by omega) (by omega)).symm) (by first | rfl | exact (mF_triv (by omega) (by omega) (by omega)).symm) (by first | rfl | exact (mF_triv (by omega) (by omega) (by omega)).symm)) ▸ r0.1, st74.extIn⟩
    try simp only [Bool.and_eq_true, Bool.or_eq_true, decide_eq_true_eq, decide_eq_false_iff_not, Bool.not_eq_true', Bool.and_eq_false_iff, Bool.or_eq_false_iff, Bool.not_eq_false', Int.not_lt, Int.not_le, beq_iff_eq, selB] at hc24
    refine wp_skip ?_
    refine end0 (fn := Try.f46) rfl st73.defers ?_
    exact ⟨rfl, (sym_final ltE_swo hS1 hS2 hA hB hC hD h3 hC1 hC2 hR (ys := rotF xs (s : Int).toNat (m : Int).toNat (e : Int).toNat) (zs := rotF xs (s : Int).toNat (m : Int).toNat (e : Int).toNat) (us := rotF xs (s : Int).toNat (m : Int).toNat (e : Int).toNat) (by first | rfl | exact (rotF_triv (by omega) (by omega) (by omega)).symm) (by first | rfl | exact (mF_triv (by omega) (by omega) (by omega)).symm) (by first | rfl | exact (mF_triv (by omega) (by omega) (by omega)).symm)) ▸ r0.1, st73.extIn⟩
  try simp only [Bool.and_eq_true, Bool.or_eq_true, decide_eq_true_eq, decide_eq_false_iff_not, Bool.not_eq_true', Bool.and_eq_false_iff, Bool.or_eq_false_iff, Bool.not_eq_false', Int.not_lt, Int.not_le, beq_iff_eq, selB] at hc21
  refine wp_skip ?_
  show Code.wp _ _ _ a67 w67
  refine wp_seq ?_
  refine wp_seq ?_
  refine region_St (bf := [0, 0, 3, 7, 15, 15, 63, 127]) (sp := [
      (det (fun k => v.ownBlock = some k ∨ w.heap.size ≤ k) 192 (.int .i64 ((a : Int)))),
        (det (fun k => v.ownBlock = some k ∨ w.heap.size ≤ k) 193 (.int .i64 ((s : Int)))),
        (det (fun k => v.ownBlock = some k ∨ w.heap.size ≤ k) 194 (.bool (decide ((a : Int) < (s : Int))))),
        (det (fun k => v.ownBlock = some k ∨ w.heap.size ≤ k) 195 (.bool (decide ((a : Int) < (s : Int))))),
        (gdet (fun k => v.ownBlock = some k ∨ w.heap.size ≤ k) 196 ((decide ((a : Int) < (s : Int))) = true) (.int .i64 ((s : Int)))),
        (gdet (fun k => v.ownBlock = some k ∨ w.heap.size ≤ k) 197 ((decide ((a : Int) < (s : Int))) = true) (.int .i64 ((mid : Int)))),
        (gdet (fun k => v.ownBlock = some k ∨ w.heap.size ≤ k) 198 ((decide ((a : Int) < (s : Int))) = true) (.bool (decide ((s : Int) < (mid : Int))))),
        (det (fun k => v.ownBlock = some k ∨ w.heap.size ≤ k) 199 (.bool ((decide ((a : Int) < (s : Int))) && (decide ((s : Int) < (mid : Int))))))])
    [(iown EditE 42 (fun k => v.ownBlock = some k ∨ w.heap.size ≤ k) v (xs))] mixed st67 (by kernel_rfl) ⟨r0, trivial⟩
    ⟨Ob.det rfl rfl rfl (fun _ a_ _ _ c => r_move rfl (c.eo e1 (by kernel_rfl))),
       Ob.det rfl rfl rfl (fun _ a_ _ _ c => r_move rfl (c.eo e20 (by kernel_rfl))),
       Ob.det rfl rfl rfl (fun _ a_ _ _ c => r_lss rfl (c.ev 0 rfl rfl) (c.ev 1 rfl rfl)),
       Ob.det rfl rfl rfl (fun _ a_ _ _ c => r_move rfl (c.ev 2 rfl rfl)),
       Ob.gdet rfl rfl rfl rfl (gi := 3) (tg := 195) rfl rfl Iff.rfl (fun _ a_ _ _ c hpc => r_move rfl (c.eo e20 (by kernel_rfl))),
       Ob.gdet rfl rfl rfl rfl (gi := 3) (tg := 195) rfl rfl Iff.rfl (fun _ a_ _ _ c hpc => r_move rfl (c.eo e18 (by kernel_rfl))),
       Ob.gdet rfl rfl rfl rfl (gi := 3) (tg := 195) rfl rfl Iff.rfl (fun _ a_ _ _ c hpc => r_lss rfl (c.eg 4 rfl rfl hpc) (c.eg 5 rfl rfl hpc)),
       Ob.det rfl rfl rfl (fun _ a_ _ _ c => r_and rfl (c.ev 3 rfl rfl) (fun h => (c.eg 6 rfl rfl h))),
     trivial⟩ ?_
  intro a75 w75 τ75 st75 f75
  replace e0 := f75.old e0 (by kernel_rfl)
  replace e1 := f75.old e1 (by kernel_rfl)
  replace e3 := f75.old e3 (by kernel_rfl)
  replace e4 := f75.old e4 (by kernel_rfl)
  replace e18 := f75.old e18 (by kernel_rfl)
  replace e20 := f75.old e20 (by kernel_rfl)
  replace e24 := f75.old e24 (by kernel_rfl)
  have e199 : get a75 199 = (.bool ((decide ((a : Int) < (s : Int))) && (decide ((s : Int) < (mid : Int))))) := f75.v 7 rfl
  replace r0 : ownR EditE 42 (xs) (τ75 0) v w75 := f75.iown 0 rfl rfl
  clear f75
  show Code.wp _ _ _ a75 w75
  refine wp_cond_split (t := (decide ((a : Int) < (s : Int))) && (decide ((s : Int) < (mid : Int)))) e199 (fun hc25 => ?_) (fun hc25 => ?_)
  · try simp only [Bool.and_eq_true, Bool.or_eq_true, decide_eq_true_eq, decide_eq_false_iff_not, Bool.not_eq_true', Bool.and_eq_false_iff, Bool.or_eq_false_iff, Bool.not_eq_false', Int.not_lt, Int.not_le, beq_iff_eq, selB] at hc25
    refine region_St (bf := [0, 0, 0, 0, 0, 31]) (sp := [
        (det (fun k => v.ownBlock = some k ∨ w.heap.size ≤ k) 200 v),
            (det (fun k => v.ownBlock = some k ∨ w.heap.size ≤ k) 201 (.int .i64 ((a : Int)))),
            (det (fun k => v.ownBlock = some k ∨ w.heap.size ≤ k) 202 (.int .i64 ((s : Int)))),
            (det (fun k => v.ownBlock = some k ∨ w.heap.size ≤ k) 203 (.int .i64 ((mid : Int)))),
            (det (fun k => v.ownBlock = some k ∨ w.heap.size ≤ k) 204 (.func (.func 40) #[] #[])),
            (own EditE 42 (fun k => v.ownBlock = some k ∨ w.heap.size ≤ k) 0 0 (mF ltE xs a s mid))])
      [(iown EditE 42 (fun k => v.ownBlock = some k ∨ w.heap.size ≤ k) v (xs))] mixed st75 (by kernel_rfl) ⟨r0, trivial⟩
      ⟨Ob.det rfl rfl rfl (fun _ a_ _ _ c => r_move rfl (c.eo e0 (by kernel_rfl))),
           Ob.det rfl rfl rfl (fun _ a_ _ _ c => r_move rfl (c.eo e1 (by kernel_rfl))),
           Ob.det rfl rfl rfl (fun _ a_ _ _ c => r_move rfl (c.eo e20 (by kernel_rfl))),
           Ob.det rfl rfl rfl (fun _ a_ _ _ c => r_move rfl (c.eo e18 (by kernel_rfl))),
           Ob.det rfl rfl rfl (fun _ a_ _ _ c => r_move rfl (c.eo e4 (by kernel_rfl))),
           Ob.callIn rfl rfl rfl (by decide) (fun _ a_ _ _ c => ⟨_, _, (e_call5 rfl rfl Try.call46 (c.ev 0 rfl rfl) (c.ev 1 rfl rfl) (c.ev 2 rfl rfl) (c.ev 3 rfl rfl) (c.ev 4 rfl rfl)), c.old e0 (by kernel_rfl), c.iown 0 rfl rfl (by kernel_rfl), fun ho_ => ih v xs a s mid _ ho_ (by omega) (by omega) (by (try rw [mF_len (by omega) (by omega) (by (try rw [rotF_len (by omega) (by omega) (by omega)]); omega)]); (try rw [rotF_len (by omega) (by omega) (by omega)]); omega) (by (try rw [mF_len (by omega) (by omega) (by (try rw [rotF_len (by omega) (by omega) (by omega)]); omega)]); (try rw [rotF_len (by omega) (by omega) (by omega)]); omega) (by omega) (sym_pre1 hS1 hS2 hA hB hC hD h3 hR (ys := xs) (by first | rfl | exact (rotF_triv (by omega) (by omega) (by omega)).symm)).1 (sym_pre1 hS1 hS2 hA hB hC hD h3 hR (ys := xs) (by first | rfl | exact (rotF_triv (by omega) (by omega) (by omega)).symm)).2⟩),
       trivial⟩ ?_
    intro a76 w76 τ76 st76 f76
    replace e0 := f76.old e0 (by kernel_rfl)
    replace e3 := f76.old e3 (by kernel_rfl)
    replace e4 := f76.old e4 (by kernel_rfl)
    replace e18 := f76.old e18 (by kernel_rfl)
    replace e24 := f76.old e24 (by kernel_rfl)
    have r0 : ownR EditE 42 (mF ltE xs a s mid) (τ76 0) v w76 := f76.rown 5 rfl rfl e0
    clear f76
    show Code.wp _ _ _ a76 w76
    refine wp_seq ?_
    refine region_St (bf := [0, 0, 3, 7, 15, 15, 63, 127]) (sp := [
        (det (fun k => v.ownBlock = some k ∨ w.heap.size ≤ k) 206 (.int .i64 ((mid : Int)))),
            (det (fun k => v.ownBlock = some k ∨ w.heap.size ≤ k) 207 (.int .i64 ((e : Int)))),
            (det (fun k => v.ownBlock = some k ∨ w.heap.size ≤ k) 208 (.bool (decide ((mid : Int) < (e : Int))))),
            (det (fun k => v.ownBlock = some k ∨ w.heap.size ≤ k) 209 (.bool (decide ((mid : Int) < (e : Int))))),
            (gdet (fun k => v.ownBlock = some k ∨ w.heap.size ≤ k) 210 ((decide ((mid : Int) < (e : Int))) = true) (.int .i64 ((e : Int)))),
            (gdet (fun k => v.ownBlock = some k ∨ w.heap.size ≤ k) 211 ((decide ((mid : Int) < (e : Int))) = true) (.int .i64 ((b : Int)))),
            (gdet (fun k => v.ownBlock = some k ∨ w.heap.size ≤ k) 212 ((decide ((mid : Int) < (e : Int))) = true) (.bool (decide ((e : Int) < (b : Int))))),
            (det (fun k => v.ownBlock = some k ∨ w.heap.size ≤ k) 213 (.bool ((decide ((mid : Int) < (e : Int))) && (decide ((e : Int) < (b : Int))))))])
      [(iown EditE 42 (fun k => v.ownBlock = some k ∨ w.heap.size ≤ k) v (mF ltE xs a s mid))] mixed st76 (by kernel_rfl) ⟨r0, trivial⟩
      ⟨Ob.det rfl rfl rfl (fun _ a_ _ _ c => r_move rfl (c.eo e18 (by kernel_rfl))),
           Ob.det rfl rfl rfl (fun _ a_ _ _ c => r_move rfl (c.eo e24 (by kernel_rfl))),
           Ob.det rfl rfl rfl (fun _ a_ _ _ c => r_lss rfl (c.ev 0 rfl rfl) (c.ev 1 rfl rfl)),
           Ob.det rfl rfl rfl (fun _ a_ _ _ c => r_move rfl (c.ev 2 rfl rfl)),
           Ob.gdet rfl rfl rfl rfl (gi := 3) (tg := 209) rfl rfl Iff.rfl (fun _ a_ _ _ c hpc => r_move rfl (c.eo e24 (by kernel_rfl))),
           Ob.gdet rfl rfl rfl rfl (gi := 3) (tg := 209) rfl rfl Iff.rfl (fun _ a_ _ _ c hpc => r_move rfl (c.eo e3 (by kernel_rfl))),
           Ob.gdet rfl rfl rfl rfl (gi := 3) (tg := 209) rfl rfl Iff.rfl (fun _ a_ _ _ c hpc => r_lss rfl (c.eg 4 rfl rfl hpc) (c.eg 5 rfl rfl hpc)),
           Ob.det rfl rfl rfl (fun _ a_ _ _ c => r_and rfl (c.ev 3 rfl rfl) (fun h => (c.eg 6 rfl rfl h))),
       trivial⟩ ?_
    intro a77 w77 τ77 st77 f77
    replace e0 := f77.old e0 (by kernel_rfl)
    replace e3 := f77.old e3 (by kernel_rfl)
    replace e4 := f77.old e4 (by kernel_rfl)
    replace e18 := f77.old e18 (by kernel_rfl)
    replace e24 := f77.old e24 (by kernel_rfl)
    have e213 : get a77 213 = (.bool ((decide ((mid : Int) < (e : Int))) && (decide ((e : Int) < (b : Int))))) := f77.v 7 rfl
    replace r0 : ownR EditE 42 (mF ltE xs a s mid) (τ77 0) v w77 := f77.iown 0 rfl rfl
    clear f77
    show Code.wp _ _ _ a77 w77
    refine wp_cond_split (t := (decide ((mid : Int) < (e : Int))) && (decide ((e : Int) < (b : Int)))) e213 (fun hc26 => ?_) (fun hc26 => ?_)
    · try simp only [Bool.and_eq_true, Bool.or_eq_true, decide_eq_true_eq, decide_eq_false_iff_not, Bool.not_eq_true', Bool.and_eq_false_iff, Bool.or_eq_false_iff, Bool.not_eq_false', Int.not_lt, Int.not_le, beq_iff_eq, selB] at hc26
      refine region_St (bf := [0, 0, 0, 0, 0, 31]) (sp := [
          (det (fun k => v.ownBlock = some k ∨ w.heap.size ≤ k) 214 v),
                (det (fun k => v.ownBlock = some k ∨ w.heap.size ≤ k) 215 (.int .i64 ((mid : Int)))),
                (det (fun k => v.ownBlock = some k ∨ w.heap.size ≤ k) 216 (.int .i64 ((e : Int)))),
                (det (fun k => v.ownBlock = some k ∨ w.heap.size ≤ k) 217 (.int .i64 ((b : Int)))),
                (det (fun k => v.ownBlock = some k ∨ w.heap.size ≤ k) 218 (.func (.func 40) #[] #[])),
                (own EditE 42 (fun k => v.ownBlock = some k ∨ w.heap.size ≤ k) 0 0 (mF ltE (mF ltE xs a s mid) mid e b))])
        [(iown EditE 42 (fun k => v.ownBlock = some k ∨ w.heap.size ≤ k) v (mF ltE xs a s mid))] mixed st77 (by kernel_rfl) ⟨r0, trivial⟩
        ⟨Ob.det rfl rfl rfl (fun _ a_ _ _ c => r_move rfl (c.eo e0 (by kernel_rfl))),
               Ob.det rfl rfl rfl (fun _ a_ _ _ c => r_move rfl (c.eo e18 (by kernel_rfl))),
               Ob.det rfl rfl rfl (fun _ a_ _ _ c => r_move rfl (c.eo e24 (by kernel_rfl))),
               Ob.det rfl rfl rfl (fun _ a_ _ _ c => r_move rfl (c.eo e3 (by kernel_rfl))),
               Ob.det rfl rfl rfl (fun _ a_ _ _ c => r_move rfl (c.eo e4 (by kernel_rfl))),
               Ob.callIn rfl rfl rfl (by decide) (fun _ a_ _ _ c => ⟨_, _, (e_call5 rfl rfl Try.call46 (c.ev 0 rfl rfl) (c.ev 1 rfl rfl) (c.ev 2 rfl rfl) (c.ev 3 rfl rfl) (c.ev 4 rfl rfl)), c.old e0 (by kernel_rfl), c.iown 0 rfl rfl (by kernel_rfl), fun ho_ => ih v (mF ltE xs a s mid) mid e b _ ho_ (by omega) (by omega) (by (try rw [mF_len (by omega) (by omega) (by (try rw [rotF_len (by omega) (by omega) (by omega)]); omega)]); (try rw [rotF_len (by omega) (by omega) (by omega)]); omega) (by (try rw [mF_len (by omega) (by omega) (by (try rw [rotF_len (by omega) (by omega) (by omega)]); omega)]); (try rw [rotF_len (by omega) (by omega) (by omega)]); omega) (by omega) (sym_pre2 hS1 hS2 hA hB hC hD h3 hR (ys := xs) (zs := mF ltE xs a s mid) (by first | rfl | exact (rotF_triv (by omega) (by omega) (by omega)).symm) (by first | rfl | exact (mF_triv (by omega) (by omega) (by omega)).symm)).1 (sym_pre2 hS1 hS2 hA hB hC hD h3 hR (ys := xs) (zs := mF ltE xs a s mid) (by first | rfl | exact (rotF_triv (by omega) (by omega) (by omega)).symm) (by first | rfl | exact (mF_triv (by omega) (by omega) (by omega)).symm)).2⟩),
         trivial⟩ ?_
      intro a78 w78 τ78 st78 f78
      replace e0 := f78.old e0 (by kernel_rfl)
      have r0 : ownR EditE 42 (mF ltE (mF ltE xs a s mid) mid e b) (τ78 0) v w78 := f78.rown 5 rfl rfl e0
      clear f78
      refine end0 (fn := Try.f46) rfl st78.defers ?_
      exact ⟨rfl, (sym_final ltE_swo hS1 hS2 hA hB hC hD h3 hC1 hC2 hR (ys := xs) (zs := mF ltE xs a s mid) (us := mF ltE (mF ltE xs a s mid) mid e b) (by first | rfl | exact (rotF_triv (by omega) (by omega) (by omega)).symm) (by first | rfl | exact (mF_triv (by omega) (by omega) (by omega)).symm) (by first | rfl | exact (mF_triv (by omega) (by omega) (by omega)).symm)) ▸ r0.1, st78.extIn⟩
    try simp only [Bool.and_eq_true, Bool.or_eq_true, decide_eq_true_eq, decide_eq_false_iff_not, Bool.not_eq_true', Bool.and_eq_false_iff, Bool.or_eq_false_iff, Bool.not_eq_false', Int.not_lt, Int.not_le, beq_iff_eq, selB] at hc26
    refine wp_skip ?_
    refine end0 (fn := Try.f46) rfl st77.defers ?_
    exact ⟨rfl, (sym_final ltE_swo hS1 hS2 hA hB hC hD h3 hC1 hC2 hR (ys := xs) (zs := mF ltE xs a s mid) (us := mF ltE xs a s mid) (by first | rfl | exact (rotF_triv (by omega) (by omega) (by omega)).symm) (by first | rfl | exact (mF_triv (by omega) (by omega) (by omega)).symm) (by first | rfl | exact (mF_triv (by omega) (by omega) (by omega)).symm)) ▸ r0.1, st77.extIn⟩
  try simp only [Bool.and_eq_true, Bool.or_eq_true, decide_eq_true_eq, decide_eq_false_iff_not, Bool.not_eq_true', Bool.and_eq_false_iff, Bool.or_eq_false_iff, Bool.not_eq_false', Int.not_lt, Int.not_le, beq_iff_eq, selB] at hc25
  refine wp_skip ?_
  show Code.wp _ _ _ a75 w75
  refine wp_seq ?_
  refine region_St (bf := [0, 0, 3, 7, 15, 15, 63, 127]) (sp := [
      (det (fun k => v.ownBlock = some k ∨ w.heap.size ≤ k) 206 (.int .i64 ((mid : Int)))),
        (det (fun k => v.ownBlock = some k ∨ w.heap.size ≤ k) 207 (.int .i64 ((e : Int)))),
        (det (fun k => v.ownBlock = some k ∨ w.heap.size ≤ k) 208 (.bool (decide ((mid : Int) < (e : Int))))),
        (det (fun k => v.ownBlock = some k ∨ w.heap.size ≤ k) 209 (.bool (decide ((mid : Int) < (e : Int))))),
        (gdet (fun k => v.ownBlock = some k ∨ w.heap.size ≤ k) 210 ((decide ((mid : Int) < (e : Int))) = true) (.int .i64 ((e : Int)))),
        (gdet (fun k => v.ownBlock = some k ∨ w.heap.size ≤ k) 211 ((decide ((mid : Int) < (e : Int))) = true) (.int .i64 ((b : Int)))),
        (gdet (fun k => v.ownBlock = some k ∨ w.heap.size ≤ k) 212 ((decide ((mid : Int) < (e : Int))) = true) (.bool (decide ((e : Int) < (b : Int))))),
        (det (fun k => v.ownBlock = some k ∨ w.heap.size ≤ k) 213 (.bool ((decide ((mid : Int) < (e : Int))) && (decide ((e : Int) < (b : Int))))))])
    [(iown EditE 42 (fun k => v.ownBlock = some k ∨ w.heap.size ≤ k) v (xs))] mixed st75 (by kernel_rfl) ⟨r0, trivial⟩
    ⟨Ob.det rfl rfl rfl (fun _ a_ _ _ c => r_move rfl (c.eo e18 (by kernel_rfl))),
       Ob.det rfl rfl rfl (fun _ a_ _ _ c => r_move rfl (c.eo e24 (by kernel_rfl))),
       Ob.det rfl rfl rfl (fun _ a_ _ _ c => r_lss rfl (c.ev 0 rfl rfl) (c.ev 1 rfl rfl)),
       Ob.det rfl rfl rfl (fun _ a_ _ _ c => r_move rfl (c.ev 2 rfl rfl)),
       Ob.gdet rfl rfl rfl rfl (gi := 3) (tg := 209) rfl rfl Iff.rfl (fun _ a_ _ _ c hpc => r_move rfl (c.eo e24 (by kernel_rfl))),
       Ob.gdet rfl rfl rfl rfl (gi := 3) (tg := 209) rfl rfl Iff.rfl (fun _ a_ _ _ c hpc => r_move rfl (c.eo e3 (by kernel_rfl))),
       Ob.gdet rfl rfl rfl rfl (gi := 3) (tg := 209) rfl rfl Iff.rfl (fun _ a_ _ _ c hpc => r_lss rfl (c.eg 4 rfl rfl hpc) (c.eg 5 rfl rfl hpc)),
       Ob.det rfl rfl rfl (fun _ a_ _ _ c => r_and rfl (c.ev 3 rfl rfl) (fun h => (c.eg 6 rfl rfl h))),
     trivial⟩ ?_
  intro a79 w79 τ79 st79 f79
  replace e0 := f79.old e0 (by kernel_rfl)
  replace e3 := f79.old e3 (by kernel_rfl)
  replace e4 := f79.old e4 (by kernel_rfl)
  replace e18 := f79.old e18 (by kernel_rfl)
  replace e24 := f79.old e24 (by kernel_rfl)
  have e213 : get a79 213 = (.bool ((decide ((mid : Int) < (e : Int))) && (decide ((e : Int) < (b : Int))))) := f79.v 7 rfl
  replace r0 : ownR EditE 42 (xs) (τ79 0) v w79 := f79.iown 0 rfl rfl
  clear f79
  show Code.wp _ _ _ a79 w79
  refine wp_cond_split (t := (decide ((mid : Int) < (e : Int))) && (decide ((e : Int) < (b : Int)))) e213 (fun hc27 => ?_) (fun hc27 => ?_)
  · try simp only [Bool.and_eq_true, Bool.or_eq_true, decide_eq_true_eq, decide_eq_false_iff_not, Bool.not_eq_true', Bool.and_eq_false_iff, Bool.or_eq_false_iff, Bool.not_eq_false', Int.not_lt, Int.not_le, beq_iff_eq, selB] at hc27
    refine region_St (bf := [0, 0, 0, 0, 0, 31]) (sp := [
        (det (fun k => v.ownBlock = some k ∨ w.heap.size ≤ k) 214 v),
            (det (fun k => v.ownBlock = some k ∨ w.heap.size ≤ k) 215 (.int .i64 ((mid : Int)))),
            (det (fun k => v.ownBlock = some k ∨ w.heap.size ≤ k) 216 (.int .i64 ((e : Int)))),
            (det (fun k => v.ownBlock = some k ∨ w.heap.size ≤ k) 217 (.int .i64 ((b : Int)))),
            (det (fun k => v.ownBlock = some k ∨ w.heap.size ≤ k) 218 (.func (.func 40) #[] #[])),
            (own EditE 42 (fun k => v.ownBlock = some k ∨ w.heap.size ≤ k) 0 0 (mF ltE xs mid e b))])
      [(iown EditE 42 (fun k => v.ownBlock = some k ∨ w.heap.size ≤ k) v (xs))] mixed st79 (by kernel_rfl) ⟨r0, trivial⟩
      ⟨Ob.det rfl rfl rfl (fun _ a_ _ _ c => r_move rfl (c.eo e0 (by kernel_rfl))),
           Ob.det rfl rfl rfl (fun _ a_ _ _ c => r_move rfl (c.eo e18 (by kernel_rfl))),
           Ob.det rfl rfl rfl (fun _ a_ _ _ c => r_move rfl (c.eo e24 (by kernel_rfl))),
           Ob.det rfl rfl rfl (fun _ a_ _ _ c => r_move rfl (c.eo e3 (by kernel_rfl))),
           Ob.det rfl rfl rfl (fun _ a_ _ _ c => r_move rfl (c.eo e4 (by kernel_rfl))),
           Ob.callIn rfl rfl rfl (by decide) (fun _ a_ _ _ c => ⟨_, _, (e_call5 rfl rfl Try.call46 (c.ev 0 rfl rfl) (c.ev 1 rfl rfl) (c.ev 2 rfl rfl) (c.ev 3 rfl rfl) (c.ev 4 rfl rfl)), c.old e0 (by kernel_rfl), c.iown 0 rfl rfl (by kernel_rfl), fun ho_ => ih v xs mid e b _ ho_ (by omega) (by omega) (by (try rw [mF_len (by omega) (by omega) (by (try rw [rotF_len (by omega) (by omega) (by omega)]); omega)]); (try rw [rotF_len (by omega) (by omega) (by omega)]); omega) (by (try rw [mF_len (by omega) (by omega) (by (try rw [rotF_len (by omega) (by omega) (by omega)]); omega)]); (try rw [rotF_len (by omega) (by omega) (by omega)]); omega) (by omega) (sym_pre2 hS1 hS2 hA hB hC hD h3 hR (ys := xs) (zs := xs) (by first | rfl | exact (rotF_triv (by omega) (by omega) (by omega)).symm) (by first | rfl | exact (mF_triv (by omega) (by omega) (by omega)).symm)).1 (sym_pre2 hS1 hS2 hA hB hC hD h3 hR (ys := xs) (zs := xs) (by first | rfl | exact (rotF_triv (by omega) (by omega) (by omega)).symm) (by first | rfl | exact (mF_triv (by omega) (by omega) (by omega)).symm)).2⟩),
       trivial⟩ ?_
    intro a80 w80 τ80 st80 f80
    replace e0 := f80.old e0 (by kernel_rfl)
    have r0 : ownR EditE 42 (mF ltE xs mid e b) (τ80 0) v w80 := f80.rown 5 rfl rfl e0
    clear f80
    refine end0 (fn := Try.f46) rfl st80.defers ?_
    exact ⟨rfl, (sym_final ltE_swo hS1 hS2 hA hB hC hD h3 hC1 hC2 hR (ys := xs) (zs := xs) (us := mF ltE xs mid e b) (by first | rfl | exact (rotF_triv (by omega) (by omega) (by omega)).symm) (by first | rfl | exact (mF_triv (by omega) (by omega) (by omega)).symm) (by first | rfl | exact (mF_triv (by omega) (by omega) (by omega)).symm)) ▸ r0.1, st80.extIn⟩
  try simp only [Bool.and_eq_true, Bool.or_eq_true, decide_eq_true_eq, decide_eq_false_iff_not, Bool.not_eq_true', Bool.and_eq_false_iff, Bool.or_eq_false_iff, Bool.not_eq_false', Int.not_lt, Int.not_le, beq_iff_eq, selB] at hc27
  refine wp_skip ?_
  refine end0 (fn := Try.f46) rfl st79.defers ?_
  exact ⟨rfl, (sym_final ltE_swo hS1 hS2 hA hB hC hD h3 hC1 hC2 hR (ys := xs) (zs := xs) (us := xs) (by first | rfl | exact (rotF_triv (by omega) (by omega) (by omega)).symm) (by first | rfl | exact (mF_triv (by omega) (by omega) (by omega)).symm) (by first | rfl | exact (mF_triv (by omega) (by omega) (by omega)).symm)) ▸ r0.1, st79.extIn⟩

theorem editSym_all : ∀ d, editSymC d
  | 0 => fun v xs a m b w ho h1 h2 h3 hbig hd hS1 hS2 => absurd hd (by omega)
  | d + 1 => fun v xs a m b w ho h1 h2 h3 hbig hd hS1 hS2 => editSym_step (editSym_all d) v xs a m b w ho h1 h2 h3 hbig hd hS1 hS2
end B
end Go.Proofs.Ytjapbdofhbfmfaa
