/-
  Walks, printed by a program (gen.py): EdD.
-/
import Derived.Test.YtjapbdofhbfmfaaEdC
set_option linter.unusedSimpArgs false
set_option linter.unusedVariables false
namespace Go.Proofs.Ytjapbdofhbfmfaa
namespace B
open Go.RowKit
open Srt
set_option maxRecDepth 100000 in
theorem editStable_c (v : Value) (xs : List (Int × Int × ByteArray)) (w : World) (ho : OwnT EditE 42 w v xs) (hbig : xs.length ≤ 1000000000000) : Calls Try.prog 43 #[v, (.int .i64 ((xs.length : Int))), (.func (.func 40) #[] #[])] w (fun e w' => e = .returned (.tuple #[]) ∧ OwnT EditE 42 w' v (isort ltE xs) ∧ Ext (fun k => v.ownBlock = some k) w w') := by
  refine enterIn (fun g => v.ownBlock = some g) (fun g hg => ho.lt g hg) (n := 63) Try.func43 rfl rfl (Nat.le_of_ble_eq_true rfl) ?_
  intro a0 τ0 ha hτ st0
  have e0 : get a0 0 = v := ha 0 _ rfl
  have e1 : get a0 1 = (.int .i64 ((xs.length : Int))) := ha 1 _ rfl
  have e2 : get a0 2 = (.func (.func 40) #[] #[]) := ha 2 _ rfl
  clear ha
  have r0 : ownR EditE 42 xs (τ0 0) v w := ⟨ho, fun g hg => by rw [hτ]; exact hg⟩
  have hle := r0.le
  refine wp_seq ?_
  refine region_St (bf := [0]) (sp := [
      (det (fun k => v.ownBlock = some k ∨ w.heap.size ≤ k) 6 (.int .i64 (20)))])
    [(iown EditE 42 (fun k => v.ownBlock = some k ∨ w.heap.size ≤ k) v (xs))] mixed st0 (by kernel_rfl) ⟨r0, trivial⟩
    ⟨Ob.det rfl rfl rfl (fun _ a_ _ _ c => r_assign rfl rfl),
     trivial⟩ ?_
  intro a1 w1 τ1 st1 f1
  replace e0 := f1.old e0 (by kernel_rfl)
  replace e1 := f1.old e1 (by kernel_rfl)
  replace e2 := f1.old e2 (by kernel_rfl)
  have e6 : get a1 6 = (.int .i64 (20)) := f1.v 0 rfl
  replace r0 : ownR EditE 42 (xs) (τ1 0) v w1 := f1.iown 0 rfl rfl
  clear f1
  show Code.wp _ _ _ a1 w1
  refine wp_seq ?_
  refine region_St (bf := [0, 0, 3]) (sp := [
      (det (fun k => v.ownBlock = some k ∨ w.heap.size ≤ k) 10 (.int .i64 (20))),
        (det (fun k => v.ownBlock = some k ∨ w.heap.size ≤ k) 7 (.int .i64 (0))),
        (det (fun k => v.ownBlock = some k ∨ w.heap.size ≤ k) 8 (.int .i64 (20)))])
    [(iown EditE 42 (fun k => v.ownBlock = some k ∨ w.heap.size ≤ k) v (xs))] mixed st1 (by kernel_rfl) ⟨r0, trivial⟩
    ⟨Ob.det rfl rfl rfl (fun _ a_ _ _ c => r_move rfl (c.eo e6 (by kernel_rfl))),
       Ob.det rfl rfl rfl (fun _ a_ _ _ c => r_assign rfl rfl),
       Ob.det rfl rfl rfl (fun _ a_ _ _ c => r_assign rfl (c.ev 0 rfl rfl)),
     trivial⟩ ?_
  intro a2 w2 τ2 st2 f2
  replace e0 := f2.old e0 (by kernel_rfl)
  replace e1 := f2.old e1 (by kernel_rfl)
  replace e2 := f2.old e2 (by kernel_rfl)
  replace e6 := f2.old e6 (by kernel_rfl)
  have e7 : get a2 7 = (.int .i64 (0)) := f2.v 1 rfl
  have e8 : get a2 8 = (.int .i64 (20)) := f2.v 2 rfl
  replace r0 : ownR EditE 42 (xs) (τ2 0) v w2 := f2.iown 0 rfl rfl
  clear f2
  show Code.wp _ _ _ a2 w2
  refine wp_seq ?_
  refine wp_block ?_
  refine wp_loop (fun a_ w_ => ∃ (a b : Nat) (ys : List (Int × Int × ByteArray)) (τ : Nat → Foot), (a ≤ xs.length) ∧
        (b = a + 20) ∧
        (ys.length = xs.length) ∧
        (ys.take a ++ chunk ltE 20 (xs.drop a) = chunk ltE 20 xs) ∧
        (ys.drop a = xs.drop a) ∧
        St (fun k => v.ownBlock = some k ∨ w.heap.size ≤ k) w 63 a_ w_ τ ∧
        get a_ 7 = (.int .i64 ((a : Int))) ∧
        get a_ 8 = (.int .i64 ((b : Int))) ∧
        get a_ 0 = v ∧
        get a_ 1 = (.int .i64 ((xs.length : Int))) ∧
        get a_ 2 = (.func (.func 40) #[] #[]) ∧
        get a_ 6 = (.int .i64 (20)) ∧
        ownR EditE 42 (ys) (τ 0) v w_) (fun a_ _ => xs.length + 20 - (intOf (get a_ 8)).toNat) ?_ ?_
  · refine ⟨0, 20, xs, τ2, ?_, ?_, ?_, ?_, ?_, st2, (e7.trans (int_eq (by omega))), (e8.trans (int_eq (by omega))), e0, e1, e2, e6, ?_⟩
    · omega
    · omega
    · rfl
    · simp
    · rfl
    · exact r0.cast (by rfl)
  intro a3 w3 hI
  obtain ⟨a, b, ys, τ3, q0, q1, q2, q3, q4, st3, e7, e8, e0, e1, e2, e6, r0⟩ := hI
  have m8 := e8
  refine wp_seq ?_
  refine wp_seq ?_
  refine region_St (bf := [0, 0, 3]) (sp := [
      (det (fun k => v.ownBlock = some k ∨ w.heap.size ≤ k) 11 (.int .i64 ((b : Int)))),
        (det (fun k => v.ownBlock = some k ∨ w.heap.size ≤ k) 12 (.int .i64 ((xs.length : Int)))),
        (det (fun k => v.ownBlock = some k ∨ w.heap.size ≤ k) 13 (.bool (decide ((b : Int) ≤ (xs.length : Int)))))])
    [(iown EditE 42 (fun k => v.ownBlock = some k ∨ w.heap.size ≤ k) v (ys))] mixed st3 (by kernel_rfl) ⟨r0, trivial⟩
    ⟨Ob.det rfl rfl rfl (fun _ a_ _ _ c => r_move rfl (c.eo e8 (by kernel_rfl))),
       Ob.det rfl rfl rfl (fun _ a_ _ _ c => r_move rfl (c.eo e1 (by kernel_rfl))),
       Ob.det rfl rfl rfl (fun _ a_ _ _ c => r_leq rfl (c.ev 0 rfl rfl) (c.ev 1 rfl rfl)),
     trivial⟩ ?_
  intro a4 w4 τ4 st4 f4
  replace e0 := f4.old e0 (by kernel_rfl)
  replace e1 := f4.old e1 (by kernel_rfl)
  replace e2 := f4.old e2 (by kernel_rfl)
  replace e6 := f4.old e6 (by kernel_rfl)
  replace e7 := f4.old e7 (by kernel_rfl)
  replace e8 := f4.old e8 (by kernel_rfl)
  have e13 : get a4 13 = (.bool (decide ((b : Int) ≤ (xs.length : Int)))) := f4.v 2 rfl
  replace r0 : ownR EditE 42 (ys) (τ4 0) v w4 := f4.iown 0 rfl rfl
  clear f4
  show Code.wp _ _ _ a4 w4
  refine wp_cond_split (t := decide ((b : Int) ≤ (xs.length : Int))) e13 (fun hc1 => ?_) (fun hc1 => ?_)
  · try simp only [Bool.and_eq_true, Bool.or_eq_true, decide_eq_true_eq, decide_eq_false_iff_not, Bool.not_eq_true', Bool.and_eq_false_iff, Bool.or_eq_false_iff, Bool.not_eq_false', Int.not_lt, Int.not_le, beq_iff_eq, selB] at hc1
    refine wp_skip ?_
    show Code.wp _ _ _ a4 w4
    refine wp_block ?_
    refine wp_seq ?_
    refine region_St (bf := [0, 0, 0, 0, 15]) (sp := [
        (det (fun k => v.ownBlock = some k ∨ w.heap.size ≤ k) 14 v),
            (det (fun k => v.ownBlock = some k ∨ w.heap.size ≤ k) 15 (.int .i64 ((a : Int)))),
            (det (fun k => v.ownBlock = some k ∨ w.heap.size ≤ k) 16 (.int .i64 ((b : Int)))),
            (det (fun k => v.ownBlock = some k ∨ w.heap.size ≤ k) 17 (.func (.func 40) #[] #[])),
            (own EditE 42 (fun k => v.ownBlock = some k ∨ w.heap.size ≤ k) 0 0 (insF ltE ys a b))])
      [(iown EditE 42 (fun k => v.ownBlock = some k ∨ w.heap.size ≤ k) v (ys))] mixed st4 (by kernel_rfl) ⟨r0, trivial⟩
      ⟨Ob.det rfl rfl rfl (fun _ a_ _ _ c => r_move rfl (c.eo e0 (by kernel_rfl))),
           Ob.det rfl rfl rfl (fun _ a_ _ _ c => r_move rfl (c.eo e7 (by kernel_rfl))),
           Ob.det rfl rfl rfl (fun _ a_ _ _ c => r_move rfl (c.eo e8 (by kernel_rfl))),
           Ob.det rfl rfl rfl (fun _ a_ _ _ c => r_move rfl (c.eo e2 (by kernel_rfl))),
           Ob.callIn rfl rfl rfl (by decide) (fun _ a_ _ _ c => ⟨_, _, (e_call4 rfl rfl Try.call45 (c.ev 0 rfl rfl) (c.ev 1 rfl rfl) (c.ev 2 rfl rfl) (c.ev 3 rfl rfl)), c.old e0 (by kernel_rfl), c.iown 0 rfl rfl (by kernel_rfl), fun ho_ => editIns_n v ys a b _ ho_ (by omega) (by omega) (by omega)⟩),
       trivial⟩ ?_
    intro a5 w5 τ5 st5 f5
    replace e0 := f5.old e0 (by kernel_rfl)
    replace e1 := f5.old e1 (by kernel_rfl)
    replace e2 := f5.old e2 (by kernel_rfl)
    replace e6 := f5.old e6 (by kernel_rfl)
    replace e7 := f5.old e7 (by kernel_rfl)
    replace e8 := f5.old e8 (by kernel_rfl)
    replace e13 := f5.old e13 (by kernel_rfl)
    have r0 : ownR EditE 42 (insF ltE ys a b) (τ5 0) v w5 := f5.rown 4 rfl rfl e0
    clear f5
    show Code.wp _ _ _ a5 w5
    refine wp_seq ?_
    refine region_St (bf := [0, 1]) (sp := [
        (det (fun k => v.ownBlock = some k ∨ w.heap.size ≤ k) 19 (.int .i64 ((b : Int)))),
            (det (fun k => v.ownBlock = some k ∨ w.heap.size ≤ k) 7 (.int .i64 ((b : Int))))])
      [(iown EditE 42 (fun k => v.ownBlock = some k ∨ w.heap.size ≤ k) v (insF ltE ys a b))] mixed st5 (by kernel_rfl) ⟨r0, trivial⟩
      ⟨Ob.det rfl rfl rfl (fun _ a_ _ _ c => r_move rfl (c.eo e8 (by kernel_rfl))),
           Ob.det rfl rfl rfl (fun _ a_ _ _ c => r_assign rfl (c.ev 0 rfl rfl)),
       trivial⟩ ?_
    intro a6 w6 τ6 st6 f6
    replace e0 := f6.old e0 (by kernel_rfl)
    replace e1 := f6.old e1 (by kernel_rfl)
    replace e2 := f6.old e2 (by kernel_rfl)
    replace e6 := f6.old e6 (by kernel_rfl)
    have e7 : get a6 7 = (.int .i64 ((b : Int))) := f6.v 1 rfl
    replace e8 := f6.old e8 (by kernel_rfl)
    replace e13 := f6.old e13 (by kernel_rfl)
    replace r0 : ownR EditE 42 (insF ltE ys a b) (τ6 0) v w6 := f6.iown 0 rfl rfl
    clear f6
    show Code.wp _ _ _ a6 w6
    refine region_St (bf := [0, 0, 3, 7]) (sp := [
        (det (fun k => v.ownBlock = some k ∨ w.heap.size ≤ k) 20 (.int .i64 ((b : Int)))),
            (det (fun k => v.ownBlock = some k ∨ w.heap.size ≤ k) 21 (.int .i64 (20))),
            (det (fun k => v.ownBlock = some k ∨ w.heap.size ≤ k) 22 (.int .i64 ((b : Int) + 20))),
            (det (fun k => v.ownBlock = some k ∨ w.heap.size ≤ k) 8 (.int .i64 ((b : Int) + 20)))])
      [(iown EditE 42 (fun k => v.ownBlock = some k ∨ w.heap.size ≤ k) v (insF ltE ys a b))] mixed st6 (by kernel_rfl) ⟨r0, trivial⟩
      ⟨Ob.det rfl rfl rfl (fun _ a_ _ _ c => r_move rfl (c.eo e8 (by kernel_rfl))),
           Ob.det rfl rfl rfl (fun _ a_ _ _ c => r_move rfl (c.eo e6 (by kernel_rfl))),
           Ob.det rfl rfl rfl (fun _ a_ _ _ c => r_add rfl (c.ev 0 rfl rfl) (c.ev 1 rfl rfl) (by omega)),
           Ob.det rfl rfl rfl (fun _ a_ _ _ c => r_assign rfl (c.ev 2 rfl rfl)),
       trivial⟩ ?_
    intro a7 w7 τ7 st7 f7
    replace e0 := f7.old e0 (by kernel_rfl)
    replace e1 := f7.old e1 (by kernel_rfl)
    replace e2 := f7.old e2 (by kernel_rfl)
    replace e6 := f7.old e6 (by kernel_rfl)
    replace e7 := f7.old e7 (by kernel_rfl)
    have e8 : get a7 8 = (.int .i64 ((b : Int) + 20)) := f7.v 3 rfl
    replace e13 := f7.old e13 (by kernel_rfl)
    replace r0 : ownR EditE 42 (insF ltE ys a b) (τ7 0) v w7 := f7.iown 0 rfl rfl
    clear f7
    show _
    refine ⟨⟨b, b + 20, insF ltE ys a b, τ7, ?_, ?_, ?_, ?_, ?_, st7, (e7.trans (int_eq (by omega))), (e8.trans (int_eq (by omega))), e0, e1, e2, e6, ?_⟩, ?_⟩
    · omega
    · omega
    · rw [insF_len (by omega) (by omega)]; exact q2
    · subst q1; exact (st1_step (by omega) q3 q4 (by omega)).1
    · subst q1; exact (st1_step (by omega) q3 q4 (by omega)).2
    · exact r0.cast (by rfl)
    · simp only [m8, e8, intOf]; omega
  try simp only [Bool.and_eq_true, Bool.or_eq_true, decide_eq_true_eq, decide_eq_false_iff_not, Bool.not_eq_true', Bool.and_eq_false_iff, Bool.or_eq_false_iff, Bool.not_eq_false', Int.not_lt, Int.not_le, beq_iff_eq, selB] at hc1
  refine wp_exit ?_
  repeat (with_reducible refine then_exit ?_)
  refine exit_here ?_
  show Code.wp _ _ _ a4 w4
  refine wp_seq ?_
  refine region_St (bf := [0, 0, 0, 0, 15]) (sp := [
      (det (fun k => v.ownBlock = some k ∨ w.heap.size ≤ k) 23 v),
        (det (fun k => v.ownBlock = some k ∨ w.heap.size ≤ k) 24 (.int .i64 ((a : Int)))),
        (det (fun k => v.ownBlock = some k ∨ w.heap.size ≤ k) 25 (.int .i64 ((xs.length : Int)))),
        (det (fun k => v.ownBlock = some k ∨ w.heap.size ≤ k) 26 (.func (.func 40) #[] #[])),
        (own EditE 42 (fun k => v.ownBlock = some k ∨ w.heap.size ≤ k) 0 0 (insF ltE ys a xs.length))])
    [(iown EditE 42 (fun k => v.ownBlock = some k ∨ w.heap.size ≤ k) v (ys))] mixed st4 (by kernel_rfl) ⟨r0, trivial⟩
    ⟨Ob.det rfl rfl rfl (fun _ a_ _ _ c => r_move rfl (c.eo e0 (by kernel_rfl))),
       Ob.det rfl rfl rfl (fun _ a_ _ _ c => r_move rfl (c.eo e7 (by kernel_rfl))),
       Ob.det rfl rfl rfl (fun _ a_ _ _ c => r_move rfl (c.eo e1 (by kernel_rfl))),
       Ob.det rfl rfl rfl (fun _ a_ _ _ c => r_move rfl (c.eo e2 (by kernel_rfl))),
       Ob.callIn rfl rfl rfl (by decide) (fun _ a_ _ _ c => ⟨_, _, (e_call4 rfl rfl Try.call45 (c.ev 0 rfl rfl) (c.ev 1 rfl rfl) (c.ev 2 rfl rfl) (c.ev 3 rfl rfl)), c.old e0 (by kernel_rfl), c.iown 0 rfl rfl (by kernel_rfl), fun ho_ => editIns_n v ys a xs.length _ ho_ (by omega) (by omega) (by omega)⟩),
     trivial⟩ ?_
  intro a8 w8 τ8 st8 f8
  replace e0 := f8.old e0 (by kernel_rfl)
  replace e1 := f8.old e1 (by kernel_rfl)
  replace e2 := f8.old e2 (by kernel_rfl)
  replace e6 := f8.old e6 (by kernel_rfl)
  replace e7 := f8.old e7 (by kernel_rfl)
  replace e8 := f8.old e8 (by kernel_rfl)
  have r0 : ownR EditE 42 (insF ltE ys a xs.length) (τ8 0) v w8 := f8.rown 4 rfl rfl e0
  clear f8
  show Code.wp _ _ _ a8 w8
  refine wp_block ?_
  refine wp_loop (fun a_ w_ => ∃ (bs : Nat) (zs : List (Int × Int × ByteArray)) (τ : Nat → Foot), (1 ≤ bs) ∧
        (zs = chunk ltE bs xs) ∧
        St (fun k => v.ownBlock = some k ∨ w.heap.size ≤ k) w 63 a_ w_ τ ∧
        get a_ 6 = (.int .i64 ((bs : Int))) ∧
        get a_ 0 = v ∧
        get a_ 1 = (.int .i64 ((xs.length : Int))) ∧
        get a_ 2 = (.func (.func 40) #[] #[]) ∧
        ownR EditE 42 (zs) (τ 0) v w_) (fun a_ _ => xs.length - (intOf (get a_ 6)).toNat) ?_ ?_
  · refine ⟨20, insF ltE ys a xs.length, τ8, ?_, ?_, st8, (e6.trans (int_eq (by omega))), e0, e1, e2, ?_⟩
    · omega
    · have h_ := st1_end q3 q4 (by omega) (by omega); rw [q2] at h_; exact h_
    · exact r0.cast (by rfl)
  intro a9 w9 hI
  obtain ⟨bs, zs, τ9, q0, q1, st9, e6, e0, e1, e2, r0⟩ := hI
  have p1 := q1
  have hzl : zs.length = xs.length := by rw [q1]; exact chunk_len _ _ (Nat.le_refl _)
  have m6 := e6
  refine wp_seq ?_
  refine wp_seq ?_
  refine region_St (bf := [0, 0, 3]) (sp := [
      (det (fun k => v.ownBlock = some k ∨ w.heap.size ≤ k) 28 (.int .i64 ((bs : Int)))),
        (det (fun k => v.ownBlock = some k ∨ w.heap.size ≤ k) 29 (.int .i64 ((xs.length : Int)))),
        (det (fun k => v.ownBlock = some k ∨ w.heap.size ≤ k) 30 (.bool (decide ((bs : Int) < (xs.length : Int)))))])
    [(iown EditE 42 (fun k => v.ownBlock = some k ∨ w.heap.size ≤ k) v (zs))] mixed st9 (by kernel_rfl) ⟨r0, trivial⟩
    ⟨Ob.det rfl rfl rfl (fun _ a_ _ _ c => r_move rfl (c.eo e6 (by kernel_rfl))),
       Ob.det rfl rfl rfl (fun _ a_ _ _ c => r_move rfl (c.eo e1 (by kernel_rfl))),
       Ob.det rfl rfl rfl (fun _ a_ _ _ c => r_lss rfl (c.ev 0 rfl rfl) (c.ev 1 rfl rfl)),
     trivial⟩ ?_
  intro a10 w10 τ10 st10 f10
  replace e0 := f10.old e0 (by kernel_rfl)
  replace e1 := f10.old e1 (by kernel_rfl)
  replace e2 := f10.old e2 (by kernel_rfl)
  replace e6 := f10.old e6 (by kernel_rfl)
  have e30 : get a10 30 = (.bool (decide ((bs : Int) < (xs.length : Int)))) := f10.v 2 rfl
  replace r0 : ownR EditE 42 (zs) (τ10 0) v w10 := f10.iown 0 rfl rfl
  clear f10
  show Code.wp _ _ _ a10 w10
  refine wp_cond_split (t := decide ((bs : Int) < (xs.length : Int))) e30 (fun hc2 => ?_) (fun hc2 => ?_)
  · try simp only [Bool.and_eq_true, Bool.or_eq_true, decide_eq_true_eq, decide_eq_false_iff_not, Bool.not_eq_true', Bool.and_eq_false_iff, Bool.or_eq_false_iff, Bool.not_eq_false', Int.not_lt, Int.not_le, beq_iff_eq, selB] at hc2
    refine wp_skip ?_
    show Code.wp _ _ _ a10 w10
    refine wp_block ?_
    refine wp_seq ?_
    refine region_St (bf := [0, 1, 0, 7]) (sp := [
        (det (fun k => v.ownBlock = some k ∨ w.heap.size ≤ k) 31 (.int .i64 ((bs : Int)))),
            (det (fun k => v.ownBlock = some k ∨ w.heap.size ≤ k) 32 (.int .i64 (2 * (bs : Int)))),
            (det (fun k => v.ownBlock = some k ∨ w.heap.size ≤ k) 7 (.int .i64 (0))),
            (det (fun k => v.ownBlock = some k ∨ w.heap.size ≤ k) 8 (.int .i64 (2 * (bs : Int))))])
      [(iown EditE 42 (fun k => v.ownBlock = some k ∨ w.heap.size ≤ k) v (zs))] mixed st10 (by kernel_rfl) ⟨r0, trivial⟩
      ⟨Ob.det rfl rfl rfl (fun _ a_ _ _ c => r_move rfl (c.eo e6 (by kernel_rfl))),
           Ob.det rfl rfl rfl (fun _ a_ _ _ c => r_mul rfl rfl (c.ev 0 rfl rfl) (by omega)),
           Ob.det rfl rfl rfl (fun _ a_ _ _ c => r_assign rfl rfl),
           Ob.det rfl rfl rfl (fun _ a_ _ _ c => r_assign rfl (c.ev 1 rfl rfl)),
       trivial⟩ ?_
    intro a11 w11 τ11 st11 f11
    replace e0 := f11.old e0 (by kernel_rfl)
    replace e1 := f11.old e1 (by kernel_rfl)
    replace e2 := f11.old e2 (by kernel_rfl)
    replace e6 := f11.old e6 (by kernel_rfl)
    have e7 : get a11 7 = (.int .i64 (0)) := f11.v 2 rfl
    have e8 : get a11 8 = (.int .i64 (2 * (bs : Int))) := f11.v 3 rfl
    replace e30 := f11.old e30 (by kernel_rfl)
    replace r0 : ownR EditE 42 (zs) (τ11 0) v w11 := f11.iown 0 rfl rfl
    clear f11
    show Code.wp _ _ _ a11 w11
    refine wp_seq ?_
    refine wp_block ?_
    refine wp_loop (fun a_ w_ => ∃ (u d : Nat) (us : List (Int × Int × ByteArray)) (τ : Nat → Foot), (u ≤ xs.length) ∧
            (d = u + 2 * bs) ∧
            (us.length = xs.length) ∧
            (us.take u ++ chunk ltE (2 * bs) (xs.drop u) = chunk ltE (2 * bs) xs) ∧
            (us.drop u = chunk ltE bs (xs.drop u)) ∧
            St (fun k => v.ownBlock = some k ∨ w.heap.size ≤ k) w 63 a_ w_ τ ∧
            get a_ 7 = (.int .i64 ((u : Int))) ∧
            get a_ 8 = (.int .i64 ((d : Int))) ∧
            get a_ 0 = v ∧
            get a_ 1 = (.int .i64 ((xs.length : Int))) ∧
            get a_ 2 = (.func (.func 40) #[] #[]) ∧
            get a_ 6 = (.int .i64 ((bs : Int))) ∧
            get a_ 30 = (.bool (decide ((bs : Int) < (xs.length : Int)))) ∧
            ownR EditE 42 (us) (τ 0) v w_) (fun a_ _ => xs.length + 2 * bs - (intOf (get a_ 8)).toNat) ?_ ?_
    · refine ⟨0, 2 * bs, zs, τ11, ?_, ?_, ?_, ?_, ?_, st11, (e7.trans (int_eq (by omega))), (e8.trans (int_eq (by omega))), e0, e1, e2, e6, e30, ?_⟩
      · omega
      · omega
      · exact hzl
      · simp
      · simpa using p1
      · exact r0.cast (by rfl)
    intro a12 w12 hI
    obtain ⟨u, d, us, τ12, q0, q1, q2, q3, q4, st12, e7, e8, e0, e1, e2, e6, e30, r0⟩ := hI
    have m8 := e8
    refine wp_seq ?_
    refine wp_seq ?_
    refine region_St (bf := [0, 0, 3]) (sp := [
        (det (fun k => v.ownBlock = some k ∨ w.heap.size ≤ k) 33 (.int .i64 ((d : Int)))),
            (det (fun k => v.ownBlock = some k ∨ w.heap.size ≤ k) 34 (.int .i64 ((xs.length : Int)))),
            (det (fun k => v.ownBlock = some k ∨ w.heap.size ≤ k) 35 (.bool (decide ((d : Int) ≤ (xs.length : Int)))))])
      [(iown EditE 42 (fun k => v.ownBlock = some k ∨ w.heap.size ≤ k) v (us))] mixed st12 (by kernel_rfl) ⟨r0, trivial⟩
      ⟨Ob.det rfl rfl rfl (fun _ a_ _ _ c => r_move rfl (c.eo e8 (by kernel_rfl))),
           Ob.det rfl rfl rfl (fun _ a_ _ _ c => r_move rfl (c.eo e1 (by kernel_rfl))),
           Ob.det rfl rfl rfl (fun _ a_ _ _ c => r_leq rfl (c.ev 0 rfl rfl) (c.ev 1 rfl rfl)),
       trivial⟩ ?_
    intro a13 w13 τ13 st13 f13
    replace e0 := f13.old e0 (by kernel_rfl)
    replace e1 := f13.old e1 (by kernel_rfl)
    replace e2 := f13.old e2 (by kernel_rfl)
    replace e6 := f13.old e6 (by kernel_rfl)
    replace e7 := f13.old e7 (by kernel_rfl)
    replace e8 := f13.old e8 (by kernel_rfl)
    replace e30 := f13.old e30 (by kernel_rfl)
    have e35 : get a13 35 = (.bool (decide ((d : Int) ≤ (xs.length : Int)))) := f13.v 2 rfl
    replace r0 : ownR EditE 42 (us) (τ13 0) v w13 := f13.iown 0 rfl rfl
    clear f13
    show Code.wp _ _ _ a13 w13
    refine wp_cond_split (t := decide ((d : Int) ≤ (xs.length : Int))) e35 (fun hc3 => ?_) (fun hc3 => ?_)
    · try simp only [Bool.and_eq_true, Bool.or_eq_true, decide_eq_true_eq, decide_eq_false_iff_not, Bool.not_eq_true', Bool.and_eq_false_iff, Bool.or_eq_false_iff, Bool.not_eq_false', Int.not_lt, Int.not_le, beq_iff_eq, selB] at hc3
      refine wp_skip ?_
      show Code.wp _ _ _ a13 w13
      refine wp_block ?_
      refine wp_seq ?_
      refine region_St (bf := [0, 0, 0, 0, 12, 0, 0, 127]) (sp := [
          (det (fun k => v.ownBlock = some k ∨ w.heap.size ≤ k) 36 v),
                (det (fun k => v.ownBlock = some k ∨ w.heap.size ≤ k) 37 (.int .i64 ((u : Int)))),
                (det (fun k => v.ownBlock = some k ∨ w.heap.size ≤ k) 38 (.int .i64 ((u : Int)))),
                (det (fun k => v.ownBlock = some k ∨ w.heap.size ≤ k) 39 (.int .i64 ((bs : Int)))),
                (det (fun k => v.ownBlock = some k ∨ w.heap.size ≤ k) 40 (.int .i64 ((u : Int) + (bs : Int)))),
                (det (fun k => v.ownBlock = some k ∨ w.heap.size ≤ k) 41 (.int .i64 ((d : Int)))),
                (det (fun k => v.ownBlock = some k ∨ w.heap.size ≤ k) 42 (.func (.func 40) #[] #[])),
                (own EditE 42 (fun k => v.ownBlock = some k ∨ w.heap.size ≤ k) 0 0 (mF ltE us u (u + bs) d))])
        [(iown EditE 42 (fun k => v.ownBlock = some k ∨ w.heap.size ≤ k) v (us))] mixed st13 (by kernel_rfl) ⟨r0, trivial⟩
        ⟨Ob.det rfl rfl rfl (fun _ a_ _ _ c => r_move rfl (c.eo e0 (by kernel_rfl))),
               Ob.det rfl rfl rfl (fun _ a_ _ _ c => r_move rfl (c.eo e7 (by kernel_rfl))),
               Ob.det rfl rfl rfl (fun _ a_ _ _ c => r_move rfl (c.eo e7 (by kernel_rfl))),
               Ob.det rfl rfl rfl (fun _ a_ _ _ c => r_move rfl (c.eo e6 (by kernel_rfl))),
               Ob.det rfl rfl rfl (fun _ a_ _ _ c => r_add rfl (c.ev 2 rfl rfl) (c.ev 3 rfl rfl) (by omega)),
               Ob.det rfl rfl rfl (fun _ a_ _ _ c => r_move rfl (c.eo e8 (by kernel_rfl))),
               Ob.det rfl rfl rfl (fun _ a_ _ _ c => r_move rfl (c.eo e2 (by kernel_rfl))),
               Ob.callIn rfl rfl rfl (by decide) (fun _ a_ _ _ c => ⟨_, _, (e_call5 rfl rfl Try.call46 (c.ev 0 rfl rfl) (c.ev 1 rfl rfl) (c.ev 4 rfl rfl) (c.ev 5 rfl rfl) (c.ev 6 rfl rfl)), c.old e0 (by kernel_rfl), c.iown 0 rfl rfl (by kernel_rfl), fun ho_ => editSym_all _ v us u (u + bs) d _ ho_ (by omega) (by omega) (by omega) (by omega) (Nat.le_refl _) (st2_sorted ltE_swo (bs := bs) (xs0 := xs) (by omega) (by omega) q4 (b := d) (by omega) (by omega) (by omega) (by omega)).1 (st2_sorted ltE_swo (bs := bs) (xs0 := xs) (by omega) (by omega) q4 (b := d) (by omega) (by omega) (by omega) (by omega)).2.1⟩),
         trivial⟩ ?_
      intro a14 w14 τ14 st14 f14
      replace e0 := f14.old e0 (by kernel_rfl)
      replace e1 := f14.old e1 (by kernel_rfl)
      replace e2 := f14.old e2 (by kernel_rfl)
      replace e6 := f14.old e6 (by kernel_rfl)
      replace e7 := f14.old e7 (by kernel_rfl)
      replace e8 := f14.old e8 (by kernel_rfl)
      replace e30 := f14.old e30 (by kernel_rfl)
      replace e35 := f14.old e35 (by kernel_rfl)
      have r0 : ownR EditE 42 (mF ltE us u (u + bs) d) (τ14 0) v w14 := f14.rown 7 rfl rfl e0
      clear f14
      show Code.wp _ _ _ a14 w14
      refine wp_seq ?_
      refine region_St (bf := [0, 1]) (sp := [
          (det (fun k => v.ownBlock = some k ∨ w.heap.size ≤ k) 44 (.int .i64 ((d : Int)))),
                (det (fun k => v.ownBlock = some k ∨ w.heap.size ≤ k) 7 (.int .i64 ((d : Int))))])
        [(iown EditE 42 (fun k => v.ownBlock = some k ∨ w.heap.size ≤ k) v (mF ltE us u (u + bs) d))] mixed st14 (by kernel_rfl) ⟨r0, trivial⟩
        ⟨Ob.det rfl rfl rfl (fun _ a_ _ _ c => r_move rfl (c.eo e8 (by kernel_rfl))),
               Ob.det rfl rfl rfl (fun _ a_ _ _ c => r_assign rfl (c.ev 0 rfl rfl)),
         trivial⟩ ?_
      intro a15 w15 τ15 st15 f15
      replace e0 := f15.old e0 (by kernel_rfl)
      replace e1 := f15.old e1 (by kernel_rfl)
      replace e2 := f15.old e2 (by kernel_rfl)
      replace e6 := f15.old e6 (by kernel_rfl)
      have e7 : get a15 7 = (.int .i64 ((d : Int))) := f15.v 1 rfl
      replace e8 := f15.old e8 (by kernel_rfl)
      replace e30 := f15.old e30 (by kernel_rfl)
      replace e35 := f15.old e35 (by kernel_rfl)
      replace r0 : ownR EditE 42 (mF ltE us u (u + bs) d) (τ15 0) v w15 := f15.iown 0 rfl rfl
      clear f15
      show Code.wp _ _ _ a15 w15
      refine region_St (bf := [0, 0, 2, 7, 15]) (sp := [
          (det (fun k => v.ownBlock = some k ∨ w.heap.size ≤ k) 45 (.int .i64 ((d : Int)))),
                (det (fun k => v.ownBlock = some k ∨ w.heap.size ≤ k) 46 (.int .i64 ((bs : Int)))),
                (det (fun k => v.ownBlock = some k ∨ w.heap.size ≤ k) 47 (.int .i64 (2 * (bs : Int)))),
                (det (fun k => v.ownBlock = some k ∨ w.heap.size ≤ k) 48 (.int .i64 ((d : Int) + (2 * (bs : Int))))),
                (det (fun k => v.ownBlock = some k ∨ w.heap.size ≤ k) 8 (.int .i64 ((d : Int) + (2 * (bs : Int)))))])
        [(iown EditE 42 (fun k => v.ownBlock = some k ∨ w.heap.size ≤ k) v (mF ltE us u (u + bs) d))] mixed st15 (by kernel_rfl) ⟨r0, trivial⟩
        ⟨Ob.det rfl rfl rfl (fun _ a_ _ _ c => r_move rfl (c.eo e8 (by kernel_rfl))),
               Ob.det rfl rfl rfl (fun _ a_ _ _ c => r_move rfl (c.eo e6 (by kernel_rfl))),
               Ob.det rfl rfl rfl (fun _ a_ _ _ c => r_mul rfl rfl (c.ev 1 rfl rfl) (by omega)),
               Ob.det rfl rfl rfl (fun _ a_ _ _ c => r_add rfl (c.ev 0 rfl rfl) (c.ev 2 rfl rfl) (by omega)),
               Ob.det rfl rfl rfl (fun _ a_ _ _ c => r_assign rfl (c.ev 3 rfl rfl)),
         trivial⟩ ?_
      intro a16 w16 τ16 st16 f16
      replace e0 := f16.old e0 (by kernel_rfl)
      replace e1 := f16.old e1 (by kernel_rfl)
      replace e2 := f16.old e2 (by kernel_rfl)
      replace e6 := f16.old e6 (by kernel_rfl)
      replace e7 := f16.old e7 (by kernel_rfl)
      have e8 : get a16 8 = (.int .i64 ((d : Int) + (2 * (bs : Int)))) := f16.v 4 rfl
      replace e30 := f16.old e30 (by kernel_rfl)
      replace e35 := f16.old e35 (by kernel_rfl)
      replace r0 : ownR EditE 42 (mF ltE us u (u + bs) d) (τ16 0) v w16 := f16.iown 0 rfl rfl
      clear f16
      show _
      refine ⟨⟨d, d + 2 * bs, mF ltE us u (u + bs) d, τ16, ?_, ?_, ?_, ?_, ?_, st16, (e7.trans (int_eq (by omega))), (e8.trans (int_eq (by omega))), e0, e1, e2, e6, e30, ?_⟩, ?_⟩
      · omega
      · omega
      · rw [mF_len (by omega) (by omega) (by omega)]; exact q2
      · subst q1; exact (st2_step ltE_swo (by omega) q2 q3 q4 (by omega)).1
      · subst q1; exact (st2_step ltE_swo (by omega) q2 q3 q4 (by omega)).2
      · exact r0.cast (by rfl)
      · simp only [m8, e8, intOf]; omega
    try simp only [Bool.and_eq_true, Bool.or_eq_true, decide_eq_true_eq, decide_eq_false_iff_not, Bool.not_eq_true', Bool.and_eq_false_iff, Bool.or_eq_false_iff, Bool.not_eq_false', Int.not_lt, Int.not_le, beq_iff_eq, selB] at hc3
    refine wp_exit ?_
    repeat (with_reducible refine then_exit ?_)
    refine exit_here ?_
    show Code.wp _ _ _ a13 w13
    refine wp_seq ?_
    refine wp_seq ?_
    refine region_St (bf := [0, 0, 3, 7]) (sp := [
        (det (fun k => v.ownBlock = some k ∨ w.heap.size ≤ k) 49 (.int .i64 ((u : Int)))),
            (det (fun k => v.ownBlock = some k ∨ w.heap.size ≤ k) 50 (.int .i64 ((bs : Int)))),
            (det (fun k => v.ownBlock = some k ∨ w.heap.size ≤ k) 51 (.int .i64 ((u : Int) + (bs : Int)))),
            (det (fun k => v.ownBlock = some k ∨ w.heap.size ≤ k) 9 (.int .i64 ((u : Int) + (bs : Int))))])
      [(iown EditE 42 (fun k => v.ownBlock = some k ∨ w.heap.size ≤ k) v (us))] mixed st13 (by kernel_rfl) ⟨r0, trivial⟩
      ⟨Ob.det rfl rfl rfl (fun _ a_ _ _ c => r_move rfl (c.eo e7 (by kernel_rfl))),
           Ob.det rfl rfl rfl (fun _ a_ _ _ c => r_move rfl (c.eo e6 (by kernel_rfl))),
           Ob.det rfl rfl rfl (fun _ a_ _ _ c => r_add rfl (c.ev 0 rfl rfl) (c.ev 1 rfl rfl) (by omega)),
           Ob.det rfl rfl rfl (fun _ a_ _ _ c => r_assign rfl (c.ev 2 rfl rfl)),
       trivial⟩ ?_
    intro a17 w17 τ17 st17 f17
    replace e0 := f17.old e0 (by kernel_rfl)
    replace e1 := f17.old e1 (by kernel_rfl)
    replace e2 := f17.old e2 (by kernel_rfl)
    replace e6 := f17.old e6 (by kernel_rfl)
    replace e7 := f17.old e7 (by kernel_rfl)
    replace e8 := f17.old e8 (by kernel_rfl)
    have e9 : get a17 9 = (.int .i64 ((u : Int) + (bs : Int))) := f17.v 3 rfl
    replace e30 := f17.old e30 (by kernel_rfl)
    replace e35 := f17.old e35 (by kernel_rfl)
    replace r0 : ownR EditE 42 (us) (τ17 0) v w17 := f17.iown 0 rfl rfl
    clear f17
    show Code.wp _ _ _ a17 w17
    refine wp_seq ?_
    refine region_St (bf := [0, 0, 3]) (sp := [
        (det (fun k => v.ownBlock = some k ∨ w.heap.size ≤ k) 52 (.int .i64 ((u : Int) + (bs : Int)))),
            (det (fun k => v.ownBlock = some k ∨ w.heap.size ≤ k) 53 (.int .i64 ((xs.length : Int)))),
            (det (fun k => v.ownBlock = some k ∨ w.heap.size ≤ k) 54 (.bool (decide ((u : Int) + (bs : Int) < (xs.length : Int)))))])
      [(iown EditE 42 (fun k => v.ownBlock = some k ∨ w.heap.size ≤ k) v (us))] mixed st17 (by kernel_rfl) ⟨r0, trivial⟩
      ⟨Ob.det rfl rfl rfl (fun _ a_ _ _ c => r_move rfl (c.eo e9 (by kernel_rfl))),
           Ob.det rfl rfl rfl (fun _ a_ _ _ c => r_move rfl (c.eo e1 (by kernel_rfl))),
           Ob.det rfl rfl rfl (fun _ a_ _ _ c => r_lss rfl (c.ev 0 rfl rfl) (c.ev 1 rfl rfl)),
       trivial⟩ ?_
    intro a18 w18 τ18 st18 f18
    replace e0 := f18.old e0 (by kernel_rfl)
    replace e1 := f18.old e1 (by kernel_rfl)
    replace e2 := f18.old e2 (by kernel_rfl)
    replace e6 := f18.old e6 (by kernel_rfl)
    replace e7 := f18.old e7 (by kernel_rfl)
    replace e8 := f18.old e8 (by kernel_rfl)
    replace e9 := f18.old e9 (by kernel_rfl)
    replace e30 := f18.old e30 (by kernel_rfl)
    replace e35 := f18.old e35 (by kernel_rfl)
    have e54 : get a18 54 = (.bool (decide ((u : Int) + (bs : Int) < (xs.length : Int)))) := f18.v 2 rfl
    replace r0 : ownR EditE 42 (us) (τ18 0) v w18 := f18.iown 0 rfl rfl
    clear f18
    show Code.wp _ _ _ a18 w18
    refine wp_cond_split (t := decide ((u : Int) + (bs : Int) < (xs.length : Int))) e54 (fun hc4 => ?_) (fun hc4 => ?_)
    · try simp only [Bool.and_eq_true, Bool.or_eq_true, decide_eq_true_eq, decide_eq_false_iff_not, Bool.not_eq_true', Bool.and_eq_false_iff, Bool.or_eq_false_iff, Bool.not_eq_false', Int.not_lt, Int.not_le, beq_iff_eq, selB] at hc4
      refine region_St (bf := [0, 0, 0, 0, 0, 31]) (sp := [
          (det (fun k => v.ownBlock = some k ∨ w.heap.size ≤ k) 55 v),
                (det (fun k => v.ownBlock = some k ∨ w.heap.size ≤ k) 56 (.int .i64 ((u : Int)))),
                (det (fun k => v.ownBlock = some k ∨ w.heap.size ≤ k) 57 (.int .i64 ((u : Int) + (bs : Int)))),
                (det (fun k => v.ownBlock = some k ∨ w.heap.size ≤ k) 58 (.int .i64 ((xs.length : Int)))),
                (det (fun k => v.ownBlock = some k ∨ w.heap.size ≤ k) 59 (.func (.func 40) #[] #[])),
                (own EditE 42 (fun k => v.ownBlock = some k ∨ w.heap.size ≤ k) 0 0 (mF ltE us u (u + bs) xs.length))])
        [(iown EditE 42 (fun k => v.ownBlock = some k ∨ w.heap.size ≤ k) v (us))] mixed st18 (by kernel_rfl) ⟨r0, trivial⟩
        ⟨Ob.det rfl rfl rfl (fun _ a_ _ _ c => r_move rfl (c.eo e0 (by kernel_rfl))),
               Ob.det rfl rfl rfl (fun _ a_ _ _ c => r_move rfl (c.eo e7 (by kernel_rfl))),
               Ob.det rfl rfl rfl (fun _ a_ _ _ c => r_move rfl (c.eo e9 (by kernel_rfl))),
               Ob.det rfl rfl rfl (fun _ a_ _ _ c => r_move rfl (c.eo e1 (by kernel_rfl))),
               Ob.det rfl rfl rfl (fun _ a_ _ _ c => r_move rfl (c.eo e2 (by kernel_rfl))),
               Ob.callIn rfl rfl rfl (by decide) (fun _ a_ _ _ c => ⟨_, _, (e_call5 rfl rfl Try.call46 (c.ev 0 rfl rfl) (c.ev 1 rfl rfl) (c.ev 2 rfl rfl) (c.ev 3 rfl rfl) (c.ev 4 rfl rfl)), c.old e0 (by kernel_rfl), c.iown 0 rfl rfl (by kernel_rfl), fun ho_ => editSym_all _ v us u (u + bs) xs.length _ ho_ (by omega) (by omega) (by omega) (by omega) (Nat.le_refl _) (st2_sorted ltE_swo (bs := bs) (xs0 := xs) (by omega) (by omega) q4 (b := xs.length) (by omega) (by omega) (by omega) (by omega)).1 (st2_sorted ltE_swo (bs := bs) (xs0 := xs) (by omega) (by omega) q4 (b := xs.length) (by omega) (by omega) (by omega) (by omega)).2.1⟩),
         trivial⟩ ?_
      intro a19 w19 τ19 st19 f19
      replace e0 := f19.old e0 (by kernel_rfl)
      replace e1 := f19.old e1 (by kernel_rfl)
      replace e2 := f19.old e2 (by kernel_rfl)
      replace e6 := f19.old e6 (by kernel_rfl)
      replace e7 := f19.old e7 (by kernel_rfl)
      replace e8 := f19.old e8 (by kernel_rfl)
      replace e9 := f19.old e9 (by kernel_rfl)
      replace e30 := f19.old e30 (by kernel_rfl)
      replace e35 := f19.old e35 (by kernel_rfl)
      replace e54 := f19.old e54 (by kernel_rfl)
      have r0 : ownR EditE 42 (mF ltE us u (u + bs) xs.length) (τ19 0) v w19 := f19.rown 5 rfl rfl e0
      clear f19
      show Code.wp _ _ _ a19 w19
      refine region_St (bf := [0, 1, 3]) (sp := [
          (det (fun k => v.ownBlock = some k ∨ w.heap.size ≤ k) 61 (.int .i64 ((bs : Int)))),
                (det (fun k => v.ownBlock = some k ∨ w.heap.size ≤ k) 62 (.int .i64 ((bs : Int) * 2))),
                (det (fun k => v.ownBlock = some k ∨ w.heap.size ≤ k) 6 (.int .i64 ((bs : Int) * 2)))])
        [(iown EditE 42 (fun k => v.ownBlock = some k ∨ w.heap.size ≤ k) v (mF ltE us u (u + bs) xs.length))] mixed st19 (by kernel_rfl) ⟨r0, trivial⟩
        ⟨Ob.det rfl rfl rfl (fun _ a_ _ _ c => r_move rfl (c.eo e6 (by kernel_rfl))),
               Ob.det rfl rfl rfl (fun _ a_ _ _ c => r_mul rfl (c.ev 0 rfl rfl) rfl (by omega)),
               Ob.det rfl rfl rfl (fun _ a_ _ _ c => r_assign rfl (c.ev 1 rfl rfl)),
         trivial⟩ ?_
      intro a20 w20 τ20 st20 f20
      replace e0 := f20.old e0 (by kernel_rfl)
      replace e1 := f20.old e1 (by kernel_rfl)
      replace e2 := f20.old e2 (by kernel_rfl)
      have e6 : get a20 6 = (.int .i64 ((bs : Int) * 2)) := f20.v 2 rfl
      replace e7 := f20.old e7 (by kernel_rfl)
      replace e8 := f20.old e8 (by kernel_rfl)
      replace e9 := f20.old e9 (by kernel_rfl)
      replace e30 := f20.old e30 (by kernel_rfl)
      replace e35 := f20.old e35 (by kernel_rfl)
      replace e54 := f20.old e54 (by kernel_rfl)
      replace r0 : ownR EditE 42 (mF ltE us u (u + bs) xs.length) (τ20 0) v w20 := f20.iown 0 rfl rfl
      clear f20
      show _
      refine ⟨⟨2 * bs, mF ltE us u (u + bs) xs.length, τ20, ?_, ?_, st20, (e6.trans (int_eq (by omega))), e0, e1, e2, ?_⟩, ?_⟩
      · omega
      · first | exact st2_end' (by omega) q2 q3 q4 (by omega) | (have h_ := st2_end ltE_swo (by omega) q2 q3 q4 (by omega) (by omega); rw [q2] at h_; exact h_)
      · exact r0.cast (by rfl)
      · simp only [m6, e6, intOf]; omega
    try simp only [Bool.and_eq_true, Bool.or_eq_true, decide_eq_true_eq, decide_eq_false_iff_not, Bool.not_eq_true', Bool.and_eq_false_iff, Bool.or_eq_false_iff, Bool.not_eq_false', Int.not_lt, Int.not_le, beq_iff_eq, selB] at hc4
    refine wp_skip ?_
    show Code.wp _ _ _ a18 w18
    refine region_St (bf := [0, 1, 3]) (sp := [
        (det (fun k => v.ownBlock = some k ∨ w.heap.size ≤ k) 61 (.int .i64 ((bs : Int)))),
            (det (fun k => v.ownBlock = some k ∨ w.heap.size ≤ k) 62 (.int .i64 ((bs : Int) * 2))),
            (det (fun k => v.ownBlock = some k ∨ w.heap.size ≤ k) 6 (.int .i64 ((bs : Int) * 2)))])
      [(iown EditE 42 (fun k => v.ownBlock = some k ∨ w.heap.size ≤ k) v (us))] mixed st18 (by kernel_rfl) ⟨r0, trivial⟩
      ⟨Ob.det rfl rfl rfl (fun _ a_ _ _ c => r_move rfl (c.eo e6 (by kernel_rfl))),
           Ob.det rfl rfl rfl (fun _ a_ _ _ c => r_mul rfl (c.ev 0 rfl rfl) rfl (by omega)),
           Ob.det rfl rfl rfl (fun _ a_ _ _ c => r_assign rfl (c.ev 1 rfl rfl)),
       trivial⟩ ?_
    intro a21 w21 τ21 st21 f21
    replace e0 := f21.old e0 (by kernel_rfl)
    replace e1 := f21.old e1 (by kernel_rfl)
    replace e2 := f21.old e2 (by kernel_rfl)
    have e6 : get a21 6 = (.int .i64 ((bs : Int) * 2)) := f21.v 2 rfl
    replace e7 := f21.old e7 (by kernel_rfl)
    replace e8 := f21.old e8 (by kernel_rfl)
    replace e9 := f21.old e9 (by kernel_rfl)
    replace e30 := f21.old e30 (by kernel_rfl)
    replace e35 := f21.old e35 (by kernel_rfl)
    replace e54 := f21.old e54 (by kernel_rfl)
    replace r0 : ownR EditE 42 (us) (τ21 0) v w21 := f21.iown 0 rfl rfl
    clear f21
    show _
    refine ⟨⟨2 * bs, us, τ21, ?_, ?_, st21, (e6.trans (int_eq (by omega))), e0, e1, e2, ?_⟩, ?_⟩
    · omega
    · first | exact st2_end' (by omega) q2 q3 q4 (by omega) | (have h_ := st2_end ltE_swo (by omega) q2 q3 q4 (by omega) (by omega); rw [q2] at h_; exact h_)
    · exact r0.cast (by rfl)
    · simp only [m6, e6, intOf]; omega
  try simp only [Bool.and_eq_true, Bool.or_eq_true, decide_eq_true_eq, decide_eq_false_iff_not, Bool.not_eq_true', Bool.and_eq_false_iff, Bool.or_eq_false_iff, Bool.not_eq_false', Int.not_lt, Int.not_le, beq_iff_eq, selB] at hc2
  refine wp_exit ?_
  repeat (with_reducible refine then_exit ?_)
  refine exit_here ?_
  refine end0 (fn := Try.f43) rfl st10.defers ?_
  rw [q1, chunk_small (by omega)] at r0
  exact ⟨rfl, r0.1, st10.extIn⟩

set_option maxRecDepth 100000 in
theorem editSort_c (v : Value) (xs : List (Int × Int × ByteArray)) (w : World) (ho : OwnT EditE 42 w v xs) (hbig : xs.length ≤ 1000000000000) : Calls Try.prog 39 #[v, (.func (.func 40) #[] #[])] w (fun e w' => e = .returned (.tuple #[]) ∧ OwnT EditE 42 w' v (isort ltE xs) ∧ Ext (fun k => v.ownBlock = some k) w w') := by
  refine enterIn (fun g => v.ownBlock = some g) (fun g hg => ho.lt g hg) (n := 9) Try.func39 rfl rfl (Nat.le_of_ble_eq_true rfl) ?_
  intro a0 τ0 ha hτ st0
  have e0 : get a0 0 = v := ha 0 _ rfl
  have e1 : get a0 1 = (.func (.func 40) #[] #[]) := ha 1 _ rfl
  clear ha
  have r0 : ownR EditE 42 xs (τ0 0) v w := ⟨ho, fun g hg => by rw [hτ]; exact hg⟩
  have hle := r0.le
  refine region_St (bf := [0, 0, 2, 0, 15]) (sp := [
      (det (fun k => v.ownBlock = some k ∨ w.heap.size ≤ k) 4 v),
        (det (fun k => v.ownBlock = some k ∨ w.heap.size ≤ k) 5 v),
        (det (fun k => v.ownBlock = some k ∨ w.heap.size ≤ k) 6 (.int .i64 ((xs.length : Int)))),
        (det (fun k => v.ownBlock = some k ∨ w.heap.size ≤ k) 7 (.func (.func 40) #[] #[])),
        (own EditE 42 (fun k => v.ownBlock = some k ∨ w.heap.size ≤ k) 0 0 (isort ltE xs))])
    [(iown EditE 42 (fun k => v.ownBlock = some k ∨ w.heap.size ≤ k) v (xs))] mixed st0 (by kernel_rfl) ⟨r0, trivial⟩
    ⟨Ob.det rfl rfl rfl (fun _ a_ _ _ c => r_move rfl (c.eo e0 (by kernel_rfl))),
       Ob.det rfl rfl rfl (fun _ a_ _ _ c => r_move rfl (c.eo e0 (by kernel_rfl))),
       Ob.det rfl rfl rfl (fun _ a_ _ _ c => r_len rfl Try.underlying37 (c.ev 1 rfl rfl) r0.isSl),
       Ob.det rfl rfl rfl (fun _ a_ _ _ c => r_move rfl (c.eo e1 (by kernel_rfl))),
       Ob.callIn rfl rfl rfl (by decide) (fun _ a_ _ _ c => ⟨_, _, (e_call3 rfl rfl Try.call43 (c.ev 0 rfl rfl) (c.ev 2 rfl rfl) (c.ev 3 rfl rfl)), c.old e0 (by kernel_rfl), c.iown 0 rfl rfl (by kernel_rfl), fun ho_ => editStable_c v xs _ ho_ (by omega)⟩),
     trivial⟩ ?_
  intro a1 w1 τ1 st1 f1
  replace e0 := f1.old e0 (by kernel_rfl)
  have r0 : ownR EditE 42 (isort ltE xs) (τ1 0) v w1 := f1.rown 4 rfl rfl e0
  clear f1
  refine end0 (fn := Try.f39) rfl st1.defers ?_
  exact ⟨rfl, r0.1, st1.extIn⟩
end B
end Go.Proofs.Ytjapbdofhbfmfaa
