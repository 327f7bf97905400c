/-
  Walks, printed by a program (gen.py): EdB.
-/
import Derived.Test.YtjapbdofhbfmfaaSelA
import Derived.Test.YtjapbdofhbfmfaaSort2
set_option linter.unusedSimpArgs false
set_option linter.unusedVariables false
namespace Go.Proofs.Ytjapbdofhbfmfaa
namespace B
open Go.RowKit
open Srt
def ltE (x y : Int × Int × ByteArray) : Bool := decide (cmpE x y < 0)
set_option maxRecDepth 100000 in
theorem editSwap_n (v : Value) (xs : List (Int × Int × ByteArray)) (a b n : Nat) (w : World) (ho : OwnT EditE 42 w v xs) (h1 : a + n ≤ xs.length) (h2 : b + n ≤ xs.length) : Calls Try.prog 49 #[v, (.int .i64 ((a : Int))), (.int .i64 ((b : Int))), (.int .i64 ((n : Int))), (.func (.func 40) #[] #[])] w (fun e w' => e = .returned (.tuple #[]) ∧ OwnT EditE 42 w' v (swR xs a b n) ∧ Ext (fun k => v.ownBlock = some k) w w') := by
  refine enterIn (fun g => v.ownBlock = some g) (fun g hg => ho.lt g hg) (n := 38) Try.func49 rfl rfl (Nat.le_of_ble_eq_true rfl) ?_
  intro a0 τ0 ha hτ st0
  have e0 : get a0 0 = v := ha 0 _ rfl
  have e1 : get a0 1 = (.int .i64 ((a : Int))) := ha 1 _ rfl
  have e2 : get a0 2 = (.int .i64 ((b : Int))) := ha 2 _ rfl
  have e3 : get a0 3 = (.int .i64 ((n : Int))) := ha 3 _ rfl
  have e4 : get a0 4 = (.func (.func 40) #[] #[]) := ha 4 _ rfl
  clear ha
  have r0 : ownR EditE 42 xs (τ0 0) v w := ⟨ho, fun g hg => by rw [hτ]; exact hg⟩
  have hle := r0.le
  refine wp_seq ?_
  refine region_St (bf := [0]) (sp := [
      (det (fun k => v.ownBlock = some k ∨ w.heap.size ≤ k) 10 (.int .i64 (0)))])
    [(iown EditE 42 (fun k => v.ownBlock = some k ∨ w.heap.size ≤ k) v (xs))] mixed st0 (by kernel_rfl) ⟨r0, trivial⟩
    ⟨Ob.det rfl rfl rfl (fun _ a_ _ _ c => r_assign rfl rfl),
     trivial⟩ ?_
  intro a1 w1 τ1 st1 f1
  replace e0 := f1.old e0 (by kernel_rfl)
  replace e1 := f1.old e1 (by kernel_rfl)
  replace e2 := f1.old e2 (by kernel_rfl)
  replace e3 := f1.old e3 (by kernel_rfl)
  have e10 : get a1 10 = (.int .i64 (0)) := f1.v 0 rfl
  replace r0 : ownR EditE 42 (xs) (τ1 0) v w1 := f1.iown 0 rfl rfl
  clear f1
  show Code.wp _ _ _ a1 w1
  refine wp_block ?_
  refine wp_loop (fun a_ w_ => ∃ (i : Nat) (τ : Nat → Foot), (i ≤ n) ∧
        St (fun k => v.ownBlock = some k ∨ w.heap.size ≤ k) w 38 a_ w_ τ ∧
        get a_ 10 = (.int .i64 ((i : Int))) ∧
        get a_ 0 = v ∧
        get a_ 1 = (.int .i64 ((a : Int))) ∧
        get a_ 2 = (.int .i64 ((b : Int))) ∧
        get a_ 3 = (.int .i64 ((n : Int))) ∧
        ownR EditE 42 (swR xs a b i) (τ 0) v w_) (fun a_ _ => n - (intOf (get a_ 10)).toNat) ?_ ?_
  · refine ⟨0, τ1, ?_, st1, (e10.trans (int_eq (by omega))), e0, e1, e2, e3, ?_⟩
    · omega
    · exact r0.cast (by rfl)
  intro a2 w2 hI
  obtain ⟨i, τ2, q0, st2, e10, e0, e1, e2, e3, r0⟩ := hI
  have hl := swR_len xs a b i
  have m10 := e10
  refine wp_seq ?_
  refine wp_seq ?_
  refine region_St (bf := [0, 0, 3]) (sp := [
      (det (fun k => v.ownBlock = some k ∨ w.heap.size ≤ k) 11 (.int .i64 ((i : Int)))),
        (det (fun k => v.ownBlock = some k ∨ w.heap.size ≤ k) 12 (.int .i64 ((n : Int)))),
        (det (fun k => v.ownBlock = some k ∨ w.heap.size ≤ k) 13 (.bool (decide ((i : Int) < (n : Int)))))])
    [(iown EditE 42 (fun k => v.ownBlock = some k ∨ w.heap.size ≤ k) v (swR xs a b i))] mixed st2 (by kernel_rfl) ⟨r0, trivial⟩
    ⟨Ob.det rfl rfl rfl (fun _ a_ _ _ c => r_move rfl (c.eo e10 (by kernel_rfl))),
       Ob.det rfl rfl rfl (fun _ a_ _ _ c => r_move rfl (c.eo e3 (by kernel_rfl))),
       Ob.det rfl rfl rfl (fun _ a_ _ _ c => r_lss rfl (c.ev 0 rfl rfl) (c.ev 1 rfl rfl)),
     trivial⟩ ?_
  intro a3 w3 τ3 st3 f3
  replace e0 := f3.old e0 (by kernel_rfl)
  replace e1 := f3.old e1 (by kernel_rfl)
  replace e2 := f3.old e2 (by kernel_rfl)
  replace e3 := f3.old e3 (by kernel_rfl)
  replace e10 := f3.old e10 (by kernel_rfl)
  have e13 : get a3 13 = (.bool (decide ((i : Int) < (n : Int)))) := f3.v 2 rfl
  replace r0 : ownR EditE 42 (swR xs a b i) (τ3 0) v w3 := f3.iown 0 rfl rfl
  clear f3
  show Code.wp _ _ _ a3 w3
  refine wp_cond_split (t := decide ((i : Int) < (n : Int))) e13 (fun hc1 => ?_) (fun hc1 => ?_)
  · try simp only [Bool.and_eq_true, Bool.or_eq_true, decide_eq_true_eq, decide_eq_false_iff_not, Bool.not_eq_true', Bool.and_eq_false_iff, Bool.or_eq_false_iff, Bool.not_eq_false', Int.not_lt, Int.not_le, beq_iff_eq, selB] at hc1
    refine wp_skip ?_
    show Code.wp _ _ _ a3 w3
    refine wp_seq ?_
    refine wp_block ?_
    refine region_St (bf := [0, 0, 0, 6, 0, 0, 0, 96, 0, 0, 0, 1536, 3840, 7936, 0, 0, 0, 98304, 245760, 507904, 1048335, 2096911, 4194303, 8388607]) (sp := [
        (det (fun k => v.ownBlock = some k ∨ w.heap.size ≤ k) 16 v),
            (det (fun k => v.ownBlock = some k ∨ w.heap.size ≤ k) 17 (.int .i64 ((a : Int)))),
            (det (fun k => v.ownBlock = some k ∨ w.heap.size ≤ k) 18 (.int .i64 ((i : Int)))),
            (det (fun k => v.ownBlock = some k ∨ w.heap.size ≤ k) 19 (.int .i64 ((a : Int) + (i : Int)))),
            (det (fun k => v.ownBlock = some k ∨ w.heap.size ≤ k) 20 v),
            (det (fun k => v.ownBlock = some k ∨ w.heap.size ≤ k) 21 (.int .i64 ((b : Int)))),
            (det (fun k => v.ownBlock = some k ∨ w.heap.size ≤ k) 22 (.int .i64 ((i : Int)))),
            (det (fun k => v.ownBlock = some k ∨ w.heap.size ≤ k) 23 (.int .i64 ((b : Int) + (i : Int)))),
            (det (fun k => v.ownBlock = some k ∨ w.heap.size ≤ k) 24 v),
            (det (fun k => v.ownBlock = some k ∨ w.heap.size ≤ k) 25 (.int .i64 ((b : Int)))),
            (det (fun k => v.ownBlock = some k ∨ w.heap.size ≤ k) 26 (.int .i64 ((i : Int)))),
            (det (fun k => v.ownBlock = some k ∨ w.heap.size ≤ k) 27 (.int .i64 ((b : Int) + (i : Int)))),
            (det (fun k => v.ownBlock = some k ∨ w.heap.size ≤ k) 28 (.pointer (some ((ptrOf v).add (((b : Int) + (i : Int) : Int).toNat * 3))))),
            (det (fun k => v.ownBlock = some k ∨ w.heap.size ≤ k) 29 (.agg #[(.int .i64 ((nth (swR xs a b i) ((b : Int) + (i : Int))).1)), (.int .i64 ((nth (swR xs a b i) ((b : Int) + (i : Int))).2.1)), (.string ((nth (swR xs a b i) ((b : Int) + (i : Int))).2.2))])),
            (det (fun k => v.ownBlock = some k ∨ w.heap.size ≤ k) 30 v),
            (det (fun k => v.ownBlock = some k ∨ w.heap.size ≤ k) 31 (.int .i64 ((a : Int)))),
            (det (fun k => v.ownBlock = some k ∨ w.heap.size ≤ k) 32 (.int .i64 ((i : Int)))),
            (det (fun k => v.ownBlock = some k ∨ w.heap.size ≤ k) 33 (.int .i64 ((a : Int) + (i : Int)))),
            (det (fun k => v.ownBlock = some k ∨ w.heap.size ≤ k) 34 (.pointer (some ((ptrOf v).add (((a : Int) + (i : Int) : Int).toNat * 3))))),
            (det (fun k => v.ownBlock = some k ∨ w.heap.size ≤ k) 35 (.agg #[(.int .i64 ((nth (swR xs a b i) ((a : Int) + (i : Int))).1)), (.int .i64 ((nth (swR xs a b i) ((a : Int) + (i : Int))).2.1)), (.string ((nth (swR xs a b i) ((a : Int) + (i : Int))).2.2))])),
            (det (fun k => v.ownBlock = some k ∨ w.heap.size ≤ k) 36 (.pointer (some ((ptrOf v).add (((a : Int) + (i : Int) : Int).toNat * 3))))),
            (own EditE 42 (fun k => v.ownBlock = some k ∨ w.heap.size ≤ k) 0 0 ((swR xs a b i).set ((a : Int) + (i : Int)).toNat (nth (swR xs a b i) ((b : Int) + (i : Int))))),
            (det (fun k => v.ownBlock = some k ∨ w.heap.size ≤ k) 37 (.pointer (some ((ptrOf v).add (((b : Int) + (i : Int) : Int).toNat * 3))))),
            (own EditE 42 (fun k => v.ownBlock = some k ∨ w.heap.size ≤ k) 0 0 (((swR xs a b i).set ((a : Int) + (i : Int)).toNat (nth (swR xs a b i) ((b : Int) + (i : Int)))).set ((b : Int) + (i : Int)).toNat (nth (swR xs a b i) ((a : Int) + (i : Int)))))])
      [(iown EditE 42 (fun k => v.ownBlock = some k ∨ w.heap.size ≤ k) v (swR xs a b i))] mixed st3 (by kernel_rfl) ⟨r0, trivial⟩
      ⟨Ob.det rfl rfl rfl (fun _ a_ _ _ c => r_move rfl (c.eo e0 (by kernel_rfl))),
           Ob.det rfl rfl rfl (fun _ a_ _ _ c => r_move rfl (c.eo e1 (by kernel_rfl))),
           Ob.det rfl rfl rfl (fun _ a_ _ _ c => r_move rfl (c.eo e10 (by kernel_rfl))),
           Ob.det rfl rfl rfl (fun _ a_ _ _ c => r_add rfl (c.ev 1 rfl rfl) (c.ev 2 rfl rfl) (by omega)),
           Ob.det rfl rfl rfl (fun _ a_ _ _ c => r_move rfl (c.eo e0 (by kernel_rfl))),
           Ob.det rfl rfl rfl (fun _ a_ _ _ c => r_move rfl (c.eo e2 (by kernel_rfl))),
           Ob.det rfl rfl rfl (fun _ a_ _ _ c => r_move rfl (c.eo e10 (by kernel_rfl))),
           Ob.det rfl rfl rfl (fun _ a_ _ _ c => r_add rfl (c.ev 5 rfl rfl) (c.ev 6 rfl rfl) (by omega)),
           Ob.det rfl rfl rfl (fun _ a_ _ _ c => r_move rfl (c.eo e0 (by kernel_rfl))),
           Ob.det rfl rfl rfl (fun _ a_ _ _ c => r_move rfl (c.eo e2 (by kernel_rfl))),
           Ob.det rfl rfl rfl (fun _ a_ _ _ c => r_move rfl (c.eo e10 (by kernel_rfl))),
           Ob.det rfl rfl rfl (fun _ a_ _ _ c => r_add rfl (c.ev 9 rfl rfl) (c.ev 10 rfl rfl) (by omega)),
           Ob.det rfl rfl rfl (fun _ a_ _ _ c => r_indexAddr rfl Try.underlying37 Try.sizeOf42 (c.ev 8 rfl rfl) r0.isSl (c.ev 11 rfl rfl) (by omega) (by omega)),
           Ob.det rfl rfl rfl (fun _ a_ _ _ c => r_loadN (vs := [(.int .i64 ((nth (swR xs a b i) ((b : Int) + (i : Int))).1)), (.int .i64 ((nth (swR xs a b i) ((b : Int) + (i : Int))).2.1)), (.string ((nth (swR xs a b i) ((b : Int) + (i : Int))).2.2))]) rfl Try.isAgg42 Try.sizeOf42 (c.ev 12 rfl rfl) rfl (fun _ _ hj => ((c.iown 0 rfl rfl (by kernel_rfl)).1.sl).elem (nth_some (by omega) (by omega)) hj)),
           Ob.det rfl rfl rfl (fun _ a_ _ _ c => r_move rfl (c.eo e0 (by kernel_rfl))),
           Ob.det rfl rfl rfl (fun _ a_ _ _ c => r_move rfl (c.eo e1 (by kernel_rfl))),
           Ob.det rfl rfl rfl (fun _ a_ _ _ c => r_move rfl (c.eo e10 (by kernel_rfl))),
           Ob.det rfl rfl rfl (fun _ a_ _ _ c => r_add rfl (c.ev 15 rfl rfl) (c.ev 16 rfl rfl) (by omega)),
           Ob.det rfl rfl rfl (fun _ a_ _ _ c => r_indexAddr rfl Try.underlying37 Try.sizeOf42 (c.ev 14 rfl rfl) r0.isSl (c.ev 17 rfl rfl) (by omega) (by omega)),
           Ob.det rfl rfl rfl (fun _ a_ _ _ c => r_loadN (vs := [(.int .i64 ((nth (swR xs a b i) ((a : Int) + (i : Int))).1)), (.int .i64 ((nth (swR xs a b i) ((a : Int) + (i : Int))).2.1)), (.string ((nth (swR xs a b i) ((a : Int) + (i : Int))).2.2))]) rfl Try.isAgg42 Try.sizeOf42 (c.ev 18 rfl rfl) rfl (fun _ _ hj => ((c.iown 0 rfl rfl (by kernel_rfl)).1.sl).elem (nth_some (by omega) (by omega)) hj)),
           Ob.det rfl rfl rfl (fun _ a_ _ _ c => r_indexAddr rfl Try.underlying37 Try.sizeOf42 (c.ev 0 rfl rfl) r0.isSl (c.ev 3 rfl rfl) (by omega) (by omega)),
           Ob.storeElem (E := EditE) (i := ((a : Int) + (i : Int)).toNat) (off := 0) (u := (.agg #[(.int .i64 ((nth (swR xs a b i) ((b : Int) + (i : Int))).1)), (.int .i64 ((nth (swR xs a b i) ((b : Int) + (i : Int))).2.1)), (.string ((nth (swR xs a b i) ((b : Int) + (i : Int))).2.2))])) (x := nth (swR xs a b i) ((a : Int) + (i : Int))) (x' := (nth (swR xs a b i) ((b : Int) + (i : Int)))) rfl rfl rfl rfl Try.sizeOf42 (nth_some (by omega) (by (try simp only [List.length_set]); omega)) (Nat.le_of_ble_eq_true rfl) (by simp [Value.cells, Value.oneCell']) rfl (fun _ a_ _ _ c => ⟨by rw [(show get _ 0 = v from c.old e0 (by kernel_rfl))]; exact c.iown 0 rfl rfl (by kernel_rfl), (by rw [(c.ev 20 rfl rfl), (show get _ 0 = v from c.old e0 (by kernel_rfl))]; rfl), (c.ev 13 rfl rfl)⟩),
           Ob.det rfl rfl rfl (fun _ a_ _ _ c => r_indexAddr rfl Try.underlying37 Try.sizeOf42 (c.ev 4 rfl rfl) r0.isSl (c.ev 7 rfl rfl) (by omega) (by omega)),
           Ob.storeElem (E := EditE) (i := ((b : Int) + (i : Int)).toNat) (off := 0) (u := (.agg #[(.int .i64 ((nth (swR xs a b i) ((a : Int) + (i : Int))).1)), (.int .i64 ((nth (swR xs a b i) ((a : Int) + (i : Int))).2.1)), (.string ((nth (swR xs a b i) ((a : Int) + (i : Int))).2.2))])) (x := nth ((swR xs a b i).set ((a : Int) + (i : Int)).toNat (nth (swR xs a b i) ((b : Int) + (i : Int)))) ((b : Int) + (i : Int))) (x' := (nth (swR xs a b i) ((a : Int) + (i : Int)))) rfl rfl rfl rfl Try.sizeOf42 (nth_some (by omega) (by (try simp only [List.length_set]); omega)) (Nat.le_of_ble_eq_true rfl) (by simp [Value.cells, Value.oneCell']) rfl (fun _ a_ _ _ c => ⟨c.rown 21 rfl rfl (by kernel_rfl), (by rw [(c.ev 22 rfl rfl), (show get _ 0 = v from c.old e0 (by kernel_rfl))]; rfl), (c.ev 19 rfl rfl)⟩),
       trivial⟩ ?_
    intro a4 w4 τ4 st4 f4
    replace e0 := f4.old e0 (by kernel_rfl)
    replace e1 := f4.old e1 (by kernel_rfl)
    replace e2 := f4.old e2 (by kernel_rfl)
    replace e3 := f4.old e3 (by kernel_rfl)
    replace e10 := f4.old e10 (by kernel_rfl)
    replace e13 := f4.old e13 (by kernel_rfl)
    have r0 : ownR EditE 42 (((swR xs a b i).set ((a : Int) + (i : Int)).toNat (nth (swR xs a b i) ((b : Int) + (i : Int)))).set ((b : Int) + (i : Int)).toNat (nth (swR xs a b i) ((a : Int) + (i : Int)))) (τ4 0) v w4 := f4.rown 23 rfl rfl e0
    clear f4
    show _
    show Code.wp _ _ _ a4 w4
    refine region_St (bf := [0, 1, 3]) (sp := [
        (det (fun k => v.ownBlock = some k ∨ w.heap.size ≤ k) 14 (.int .i64 ((i : Int)))),
            (det (fun k => v.ownBlock = some k ∨ w.heap.size ≤ k) 15 (.int .i64 ((i : Int) + 1))),
            (det (fun k => v.ownBlock = some k ∨ w.heap.size ≤ k) 10 (.int .i64 ((i : Int) + 1)))])
      [(iown EditE 42 (fun k => v.ownBlock = some k ∨ w.heap.size ≤ k) v (((swR xs a b i).set ((a : Int) + (i : Int)).toNat (nth (swR xs a b i) ((b : Int) + (i : Int)))).set ((b : Int) + (i : Int)).toNat (nth (swR xs a b i) ((a : Int) + (i : Int)))))] mixed st4 (by kernel_rfl) ⟨r0, trivial⟩
      ⟨Ob.det rfl rfl rfl (fun _ a_ _ _ c => r_move rfl (c.eo e10 (by kernel_rfl))),
           Ob.det rfl rfl rfl (fun _ a_ _ _ c => r_add rfl (c.ev 0 rfl rfl) rfl (by omega)),
           Ob.det rfl rfl rfl (fun _ a_ _ _ c => r_assign rfl (c.ev 1 rfl rfl)),
       trivial⟩ ?_
    intro a5 w5 τ5 st5 f5
    replace e0 := f5.old e0 (by kernel_rfl)
    replace e1 := f5.old e1 (by kernel_rfl)
    replace e2 := f5.old e2 (by kernel_rfl)
    replace e3 := f5.old e3 (by kernel_rfl)
    have e10 : get a5 10 = (.int .i64 ((i : Int) + 1)) := f5.v 2 rfl
    replace e13 := f5.old e13 (by kernel_rfl)
    replace r0 : ownR EditE 42 (((swR xs a b i).set ((a : Int) + (i : Int)).toNat (nth (swR xs a b i) ((b : Int) + (i : Int)))).set ((b : Int) + (i : Int)).toNat (nth (swR xs a b i) ((a : Int) + (i : Int)))) (τ5 0) v w5 := f5.iown 0 rfl rfl
    clear f5
    refine ⟨⟨i + 1, τ5, ?_, st5, (e10.trans (int_eq (by omega))), e0, e1, e2, e3, ?_⟩, ?_⟩
    · omega
    · exact r0.cast (by rfl)
    · simp only [m10, e10, intOf]; omega
  try simp only [Bool.and_eq_true, Bool.or_eq_true, decide_eq_true_eq, decide_eq_false_iff_not, Bool.not_eq_true', Bool.and_eq_false_iff, Bool.or_eq_false_iff, Bool.not_eq_false', Int.not_lt, Int.not_le, beq_iff_eq, selB] at hc1
  refine wp_exit ?_
  repeat (with_reducible refine then_exit ?_)
  refine exit_here ?_
  refine end0 (fn := Try.f49) rfl st3.defers ?_
  obtain rfl : i = n := by omega
  exact ⟨rfl, r0.1, st3.extIn⟩

theorem editSwap_c (v : Value) (xs : List (Int × Int × ByteArray)) (a b n : Int) (w : World) (ho : OwnT EditE 42 w v xs) (ha : 0 ≤ a) (hb : 0 ≤ b) (hn : 0 ≤ n) (h1 : a + n ≤ xs.length) (h2 : b + n ≤ xs.length) : Calls Try.prog 49 #[v, .int .i64 a, .int .i64 b, .int .i64 n, (.func (.func 40) #[] #[])] w (fun e w' => e = .returned (.tuple #[]) ∧ OwnT EditE 42 w' v (swR xs a.toNat b.toNat n.toNat) ∧ Ext (fun k => v.ownBlock = some k) w w') := by
  obtain ⟨a, rfl⟩ := Int.eq_ofNat_of_zero_le ha
  obtain ⟨b, rfl⟩ := Int.eq_ofNat_of_zero_le hb
  obtain ⟨n, rfl⟩ := Int.eq_ofNat_of_zero_le hn
  exact editSwap_n v xs a b n w ho (by omega) (by omega)

set_option maxRecDepth 100000 in
theorem editIns_n (v : Value) (xs : List (Int × Int × ByteArray)) (a b : Nat) (w : World) (ho : OwnT EditE 42 w v xs) (h1 : a ≤ b) (h2 : b ≤ xs.length) (hbig : xs.length ≤ 1000000000000) : Calls Try.prog 45 #[v, (.int .i64 ((a : Int))), (.int .i64 ((b : Int))), (.func (.func 40) #[] #[])] w (fun e w' => e = .returned (.tuple #[]) ∧ OwnT EditE 42 w' v (insF ltE xs a b) ∧ Ext (fun k => v.ownBlock = some k) w w') := by
  refine enterIn (fun g => v.ownBlock = some g) (fun g hg => ho.lt g hg) (n := 53) Try.func45 rfl rfl (Nat.le_of_ble_eq_true rfl) ?_
  intro a0 τ0 ha hτ st0
  have e0 : get a0 0 = v := ha 0 _ rfl
  have e1 : get a0 1 = (.int .i64 ((a : Int))) := ha 1 _ rfl
  have e2 : get a0 2 = (.int .i64 ((b : Int))) := ha 2 _ rfl
  have e3 : get a0 3 = (.func (.func 40) #[] #[]) := ha 3 _ rfl
  clear ha
  have r0 : ownR EditE 42 xs (τ0 0) v w := ⟨ho, fun g hg => by rw [hτ]; exact hg⟩
  have hle := r0.le
  refine wp_seq ?_
  refine region_St (bf := [0, 1, 3]) (sp := [
      (det (fun k => v.ownBlock = some k ∨ w.heap.size ≤ k) 10 (.int .i64 ((a : Int)))),
        (det (fun k => v.ownBlock = some k ∨ w.heap.size ≤ k) 11 (.int .i64 ((a : Int) + 1))),
        (det (fun k => v.ownBlock = some k ∨ w.heap.size ≤ k) 8 (.int .i64 ((a : Int) + 1)))])
    [(iown EditE 42 (fun k => v.ownBlock = some k ∨ w.heap.size ≤ k) v (xs))] mixed st0 (by kernel_rfl) ⟨r0, trivial⟩
    ⟨Ob.det rfl rfl rfl (fun _ a_ _ _ c => r_move rfl (c.eo e1 (by kernel_rfl))),
       Ob.det rfl rfl rfl (fun _ a_ _ _ c => r_add rfl (c.ev 0 rfl rfl) rfl (by omega)),
       Ob.det rfl rfl rfl (fun _ a_ _ _ c => r_assign rfl (c.ev 1 rfl rfl)),
     trivial⟩ ?_
  intro a1 w1 τ1 st1 f1
  replace e0 := f1.old e0 (by kernel_rfl)
  replace e1 := f1.old e1 (by kernel_rfl)
  replace e2 := f1.old e2 (by kernel_rfl)
  replace e3 := f1.old e3 (by kernel_rfl)
  have e8 : get a1 8 = (.int .i64 ((a : Int) + 1)) := f1.v 2 rfl
  replace r0 : ownR EditE 42 (xs) (τ1 0) v w1 := f1.iown 0 rfl rfl
  clear f1
  show Code.wp _ _ _ a1 w1
  refine wp_block ?_
  refine wp_loop (fun a_ w_ => ∃ (n : Nat) (τ : Nat → Foot), (n ≤ b - (a + 1)) ∧
        St (fun k => v.ownBlock = some k ∨ w.heap.size ≤ k) w 53 a_ w_ τ ∧
        get a_ 8 = (.int .i64 ((a : Int) + 1 + (n : Int))) ∧
        get a_ 0 = v ∧
        get a_ 1 = (.int .i64 ((a : Int))) ∧
        get a_ 2 = (.int .i64 ((b : Int))) ∧
        get a_ 3 = (.func (.func 40) #[] #[]) ∧
        ownR EditE 42 (insSeq ltE a n xs) (τ 0) v w_) (fun a_ _ => b - (intOf (get a_ 8)).toNat) ?_ ?_
  · refine ⟨0, τ1, ?_, st1, (e8.trans (int_eq (by omega))), e0, e1, e2, e3, ?_⟩
    · omega
    · exact r0.cast (by rfl)
  intro a2 w2 hI
  obtain ⟨n, τ2, q0, st2, e8, e0, e1, e2, e3, r0⟩ := hI
  have m8 := e8
  refine wp_seq ?_
  refine wp_seq ?_
  refine region_St (bf := [0, 0, 3]) (sp := [
      (det (fun k => v.ownBlock = some k ∨ w.heap.size ≤ k) 12 (.int .i64 ((a : Int) + 1 + (n : Int)))),
        (det (fun k => v.ownBlock = some k ∨ w.heap.size ≤ k) 13 (.int .i64 ((b : Int)))),
        (det (fun k => v.ownBlock = some k ∨ w.heap.size ≤ k) 14 (.bool (decide ((a : Int) + 1 + (n : Int) < (b : Int)))))])
    [(iown EditE 42 (fun k => v.ownBlock = some k ∨ w.heap.size ≤ k) v (insSeq ltE a n xs))] mixed st2 (by kernel_rfl) ⟨r0, trivial⟩
    ⟨Ob.det rfl rfl rfl (fun _ a_ _ _ c => r_move rfl (c.eo e8 (by kernel_rfl))),
       Ob.det rfl rfl rfl (fun _ a_ _ _ c => r_move rfl (c.eo e2 (by kernel_rfl))),
       Ob.det rfl rfl rfl (fun _ a_ _ _ c => r_lss rfl (c.ev 0 rfl rfl) (c.ev 1 rfl rfl)),
     trivial⟩ ?_
  intro a3 w3 τ3 st3 f3
  replace e0 := f3.old e0 (by kernel_rfl)
  replace e1 := f3.old e1 (by kernel_rfl)
  replace e2 := f3.old e2 (by kernel_rfl)
  replace e3 := f3.old e3 (by kernel_rfl)
  replace e8 := f3.old e8 (by kernel_rfl)
  have e14 : get a3 14 = (.bool (decide ((a : Int) + 1 + (n : Int) < (b : Int)))) := f3.v 2 rfl
  replace r0 : ownR EditE 42 (insSeq ltE a n xs) (τ3 0) v w3 := f3.iown 0 rfl rfl
  clear f3
  show Code.wp _ _ _ a3 w3
  refine wp_cond_split (t := decide ((a : Int) + 1 + (n : Int) < (b : Int))) e14 (fun hc1 => ?_) (fun hc1 => ?_)
  · try simp only [Bool.and_eq_true, Bool.or_eq_true, decide_eq_true_eq, decide_eq_false_iff_not, Bool.not_eq_true', Bool.and_eq_false_iff, Bool.or_eq_false_iff, Bool.not_eq_false', Int.not_lt, Int.not_le, beq_iff_eq, selB] at hc1
    refine wp_skip ?_
    show Code.wp _ _ _ a3 w3
    refine wp_seq ?_
    refine wp_block ?_
    refine wp_seq ?_
    refine region_St (bf := [0, 1]) (sp := [
        (det (fun k => v.ownBlock = some k ∨ w.heap.size ≤ k) 17 (.int .i64 ((a : Int) + 1 + (n : Int)))),
            (det (fun k => v.ownBlock = some k ∨ w.heap.size ≤ k) 9 (.int .i64 ((a : Int) + 1 + (n : Int))))])
      [(iown EditE 42 (fun k => v.ownBlock = some k ∨ w.heap.size ≤ k) v (insSeq ltE a n xs))] mixed st3 (by kernel_rfl) ⟨r0, trivial⟩
      ⟨Ob.det rfl rfl rfl (fun _ a_ _ _ c => r_move rfl (c.eo e8 (by kernel_rfl))),
           Ob.det rfl rfl rfl (fun _ a_ _ _ c => r_assign rfl (c.ev 0 rfl rfl)),
       trivial⟩ ?_
    intro a4 w4 τ4 st4 f4
    replace e0 := f4.old e0 (by kernel_rfl)
    replace e1 := f4.old e1 (by kernel_rfl)
    replace e2 := f4.old e2 (by kernel_rfl)
    replace e3 := f4.old e3 (by kernel_rfl)
    replace e8 := f4.old e8 (by kernel_rfl)
    have e9 : get a4 9 = (.int .i64 ((a : Int) + 1 + (n : Int))) := f4.v 1 rfl
    replace e14 := f4.old e14 (by kernel_rfl)
    replace r0 : ownR EditE 42 (insSeq ltE a n xs) (τ4 0) v w4 := f4.iown 0 rfl rfl
    clear f4
    show Code.wp _ _ _ a4 w4
    refine wp_block ?_
    refine wp_loop (fun a_ w_ => ∃ (j : Nat) (ys : List (Int × Int × ByteArray)) (τ : Nat → Foot), (a ≤ j) ∧
            (j ≤ a + 1 + n) ∧
            (ys.length = xs.length) ∧
            (bub ltE a j ys = insSeq ltE a (n + 1) xs) ∧
            St (fun k => v.ownBlock = some k ∨ w.heap.size ≤ k) w 53 a_ w_ τ ∧
            get a_ 9 = (.int .i64 ((j : Int))) ∧
            get a_ 0 = v ∧
            get a_ 1 = (.int .i64 ((a : Int))) ∧
            get a_ 2 = (.int .i64 ((b : Int))) ∧
            get a_ 3 = (.func (.func 40) #[] #[]) ∧
            get a_ 8 = (.int .i64 ((a : Int) + 1 + (n : Int))) ∧
            get a_ 14 = (.bool (decide ((a : Int) + 1 + (n : Int) < (b : Int)))) ∧
            ownR EditE 42 (ys) (τ 0) v w_) (fun a_ _ => (intOf (get a_ 9)).toNat) ?_ ?_
    · refine ⟨a + 1 + n, insSeq ltE a n xs, τ4, ?_, ?_, ?_, ?_, st4, (e9.trans (int_eq (by omega))), e0, e1, e2, e3, e8, e14, ?_⟩
      · omega
      · omega
      · exact insSeq_len a n xs
      · rfl
      · exact r0.cast (by rfl)
    intro a5 w5 hI
    obtain ⟨j, ys, τ5, q0, q1, q2, q3, st5, e9, e0, e1, e2, e3, e8, e14, r0⟩ := hI
    have m9 := e9
    refine wp_seq ?_
    refine wp_seq ?_
    refine region_St (bf := [0, 0, 3, 7, 15, 15, 15, 111, 239, 15, 15, 1039, 3599, 7695, 16383, 32767, 65535]) (sp := [
        (det (fun k => v.ownBlock = some k ∨ w.heap.size ≤ k) 18 (.int .i64 ((j : Int)))),
            (det (fun k => v.ownBlock = some k ∨ w.heap.size ≤ k) 19 (.int .i64 ((a : Int)))),
            (det (fun k => v.ownBlock = some k ∨ w.heap.size ≤ k) 20 (.bool (decide ((a : Int) < (j : Int))))),
            (det (fun k => v.ownBlock = some k ∨ w.heap.size ≤ k) 21 (.bool (decide ((a : Int) < (j : Int))))),
            (gdet (fun k => v.ownBlock = some k ∨ w.heap.size ≤ k) 22 ((decide ((a : Int) < (j : Int))) = true) (.func (.func 40) #[] #[])),
            (gdet (fun k => v.ownBlock = some k ∨ w.heap.size ≤ k) 23 ((decide ((a : Int) < (j : Int))) = true) v),
            (gdet (fun k => v.ownBlock = some k ∨ w.heap.size ≤ k) 24 ((decide ((a : Int) < (j : Int))) = true) (.int .i64 ((j : Int)))),
            (gdet (fun k => v.ownBlock = some k ∨ w.heap.size ≤ k) 25 ((decide ((a : Int) < (j : Int))) = true) (.pointer (some ((ptrOf v).add (((j : Int) : Int).toNat * 3))))),
            (gdet (fun k => v.ownBlock = some k ∨ w.heap.size ≤ k) 26 ((decide ((a : Int) < (j : Int))) = true) (.agg #[(.int .i64 ((nth ys ((j : Int))).1)), (.int .i64 ((nth ys ((j : Int))).2.1)), (.string ((nth ys ((j : Int))).2.2))])),
            (gdet (fun k => v.ownBlock = some k ∨ w.heap.size ≤ k) 27 ((decide ((a : Int) < (j : Int))) = true) v),
            (gdet (fun k => v.ownBlock = some k ∨ w.heap.size ≤ k) 28 ((decide ((a : Int) < (j : Int))) = true) (.int .i64 ((j : Int)))),
            (gdet (fun k => v.ownBlock = some k ∨ w.heap.size ≤ k) 29 ((decide ((a : Int) < (j : Int))) = true) (.int .i64 ((j : Int) - 1))),
            (gdet (fun k => v.ownBlock = some k ∨ w.heap.size ≤ k) 30 ((decide ((a : Int) < (j : Int))) = true) (.pointer (some ((ptrOf v).add (((j : Int) - 1 : Int).toNat * 3))))),
            (gdet (fun k => v.ownBlock = some k ∨ w.heap.size ≤ k) 31 ((decide ((a : Int) < (j : Int))) = true) (.agg #[(.int .i64 ((nth ys ((j : Int) - 1)).1)), (.int .i64 ((nth ys ((j : Int) - 1)).2.1)), (.string ((nth ys ((j : Int) - 1)).2.2))])),
            (gdet (fun k => v.ownBlock = some k ∨ w.heap.size ≤ k) 32 ((decide ((a : Int) < (j : Int))) = true) (.int .i64 (cmpE (nth ys ((j : Int))) (nth ys ((j : Int) - 1))))),
            (gdet (fun k => v.ownBlock = some k ∨ w.heap.size ≤ k) 33 ((decide ((a : Int) < (j : Int))) = true) (.bool (decide (cmpE (nth ys ((j : Int))) (nth ys ((j : Int) - 1)) < 0)))),
            (det (fun k => v.ownBlock = some k ∨ w.heap.size ≤ k) 34 (.bool ((decide ((a : Int) < (j : Int))) && (decide (cmpE (nth ys ((j : Int))) (nth ys ((j : Int) - 1)) < 0)))))])
      [(iown EditE 42 (fun k => v.ownBlock = some k ∨ w.heap.size ≤ k) v (ys))] mixed st5 (by kernel_rfl) ⟨r0, trivial⟩
      ⟨Ob.det rfl rfl rfl (fun _ a_ _ _ c => r_move rfl (c.eo e9 (by kernel_rfl))),
           Ob.det rfl rfl rfl (fun _ a_ _ _ c => r_move rfl (c.eo e1 (by kernel_rfl))),
           Ob.det rfl rfl rfl (fun _ a_ _ _ c => r_gtr rfl (c.ev 0 rfl rfl) (c.ev 1 rfl rfl)),
           Ob.det rfl rfl rfl (fun _ a_ _ _ c => r_move rfl (c.ev 2 rfl rfl)),
           Ob.gdet rfl rfl rfl rfl (gi := 3) (tg := 21) rfl rfl Iff.rfl (fun _ a_ _ _ c hpc => r_move rfl (c.eo e3 (by kernel_rfl))),
           Ob.gdet rfl rfl rfl rfl (gi := 3) (tg := 21) rfl rfl Iff.rfl (fun _ a_ _ _ c hpc => r_move rfl (c.eo e0 (by kernel_rfl))),
           Ob.gdet rfl rfl rfl rfl (gi := 3) (tg := 21) rfl rfl Iff.rfl (fun _ a_ _ _ c hpc => r_move rfl (c.eo e9 (by kernel_rfl))),
           Ob.gdet rfl rfl rfl rfl (gi := 3) (tg := 21) rfl rfl Iff.rfl (fun _ a_ _ _ c hpc => r_indexAddr rfl Try.underlying37 Try.sizeOf42 (c.eg 5 rfl rfl hpc) r0.isSl (c.eg 6 rfl rfl hpc) (by have hq0 := hpc; (try simp only [Bool.and_eq_true, Bool.or_eq_true, decide_eq_true_eq, decide_eq_false_iff_not, Bool.not_eq_true', Bool.and_eq_false_iff, Bool.or_eq_false_iff, Bool.not_eq_false', Int.not_lt, Int.not_le, beq_iff_eq, selB] at hq0); omega) (by have hq0 := hpc; (try simp only [Bool.and_eq_true, Bool.or_eq_true, decide_eq_true_eq, decide_eq_false_iff_not, Bool.not_eq_true', Bool.and_eq_false_iff, Bool.or_eq_false_iff, Bool.not_eq_false', Int.not_lt, Int.not_le, beq_iff_eq, selB] at hq0); omega)),
           Ob.gdet rfl rfl rfl rfl (gi := 3) (tg := 21) rfl rfl Iff.rfl (fun _ a_ _ _ c hpc => r_loadN (vs := [(.int .i64 ((nth ys ((j : Int))).1)), (.int .i64 ((nth ys ((j : Int))).2.1)), (.string ((nth ys ((j : Int))).2.2))]) rfl Try.isAgg42 Try.sizeOf42 (c.eg 7 rfl rfl hpc) rfl (fun _ _ hj => ((c.iown 0 rfl rfl (by kernel_rfl)).1.sl).elem (nth_some (by have hq0 := hpc; (try simp only [Bool.and_eq_true, Bool.or_eq_true, decide_eq_true_eq, decide_eq_false_iff_not, Bool.not_eq_true', Bool.and_eq_false_iff, Bool.or_eq_false_iff, Bool.not_eq_false', Int.not_lt, Int.not_le, beq_iff_eq, selB] at hq0); omega) (by have hq0 := hpc; (try simp only [Bool.and_eq_true, Bool.or_eq_true, decide_eq_true_eq, decide_eq_false_iff_not, Bool.not_eq_true', Bool.and_eq_false_iff, Bool.or_eq_false_iff, Bool.not_eq_false', Int.not_lt, Int.not_le, beq_iff_eq, selB] at hq0); omega)) hj)),
           Ob.gdet rfl rfl rfl rfl (gi := 3) (tg := 21) rfl rfl Iff.rfl (fun _ a_ _ _ c hpc => r_move rfl (c.eo e0 (by kernel_rfl))),
           Ob.gdet rfl rfl rfl rfl (gi := 3) (tg := 21) rfl rfl Iff.rfl (fun _ a_ _ _ c hpc => r_move rfl (c.eo e9 (by kernel_rfl))),
           Ob.gdet rfl rfl rfl rfl (gi := 3) (tg := 21) rfl rfl Iff.rfl (fun _ a_ _ _ c hpc => r_sub rfl (c.eg 10 rfl rfl hpc) rfl (by have hq0 := hpc; (try simp only [Bool.and_eq_true, Bool.or_eq_true, decide_eq_true_eq, decide_eq_false_iff_not, Bool.not_eq_true', Bool.and_eq_false_iff, Bool.or_eq_false_iff, Bool.not_eq_false', Int.not_lt, Int.not_le, beq_iff_eq, selB] at hq0); omega)),
           Ob.gdet rfl rfl rfl rfl (gi := 3) (tg := 21) rfl rfl Iff.rfl (fun _ a_ _ _ c hpc => r_indexAddr rfl Try.underlying37 Try.sizeOf42 (c.eg 9 rfl rfl hpc) r0.isSl (c.eg 11 rfl rfl hpc) (by have hq0 := hpc; (try simp only [Bool.and_eq_true, Bool.or_eq_true, decide_eq_true_eq, decide_eq_false_iff_not, Bool.not_eq_true', Bool.and_eq_false_iff, Bool.or_eq_false_iff, Bool.not_eq_false', Int.not_lt, Int.not_le, beq_iff_eq, selB] at hq0); omega) (by have hq0 := hpc; (try simp only [Bool.and_eq_true, Bool.or_eq_true, decide_eq_true_eq, decide_eq_false_iff_not, Bool.not_eq_true', Bool.and_eq_false_iff, Bool.or_eq_false_iff, Bool.not_eq_false', Int.not_lt, Int.not_le, beq_iff_eq, selB] at hq0); omega)),
           Ob.gdet rfl rfl rfl rfl (gi := 3) (tg := 21) rfl rfl Iff.rfl (fun _ a_ _ _ c hpc => r_loadN (vs := [(.int .i64 ((nth ys ((j : Int) - 1)).1)), (.int .i64 ((nth ys ((j : Int) - 1)).2.1)), (.string ((nth ys ((j : Int) - 1)).2.2))]) rfl Try.isAgg42 Try.sizeOf42 (c.eg 12 rfl rfl hpc) rfl (fun _ _ hj => ((c.iown 0 rfl rfl (by kernel_rfl)).1.sl).elem (nth_some (by have hq0 := hpc; (try simp only [Bool.and_eq_true, Bool.or_eq_true, decide_eq_true_eq, decide_eq_false_iff_not, Bool.not_eq_true', Bool.and_eq_false_iff, Bool.or_eq_false_iff, Bool.not_eq_false', Int.not_lt, Int.not_le, beq_iff_eq, selB] at hq0); omega) (by have hq0 := hpc; (try simp only [Bool.and_eq_true, Bool.or_eq_true, decide_eq_true_eq, decide_eq_false_iff_not, Bool.not_eq_true', Bool.and_eq_false_iff, Bool.or_eq_false_iff, Bool.not_eq_false', Int.not_lt, Int.not_le, beq_iff_eq, selB] at hq0); omega)) hj)),
           Ob.gcall rfl rfl rfl rfl (gi := 3) (tg := 21) rfl rfl Iff.rfl (fun _ a_ _ _ c hpc => ⟨_, _, (e_call2 rfl (c.eg 4 rfl rfl hpc) Try.call40 (c.eg 8 rfl rfl hpc) (c.eg 13 rfl rfl hpc)), cmpE_c (nth ys ((j : Int))) (nth ys ((j : Int) - 1)) _⟩),
           Ob.gdet rfl rfl rfl rfl (gi := 3) (tg := 21) rfl rfl Iff.rfl (fun _ a_ _ _ c hpc => r_lss rfl (c.eg 14 rfl rfl hpc) rfl),
           Ob.det rfl rfl rfl (fun _ a_ _ _ c => r_and rfl (c.ev 3 rfl rfl) (fun h => (c.eg 15 rfl rfl h))),
       trivial⟩ ?_
    intro a6 w6 τ6 st6 f6
    replace e0 := f6.old e0 (by kernel_rfl)
    replace e1 := f6.old e1 (by kernel_rfl)
    replace e2 := f6.old e2 (by kernel_rfl)
    replace e3 := f6.old e3 (by kernel_rfl)
    replace e8 := f6.old e8 (by kernel_rfl)
    replace e9 := f6.old e9 (by kernel_rfl)
    replace e14 := f6.old e14 (by kernel_rfl)
    have e34 : get a6 34 = (.bool ((decide ((a : Int) < (j : Int))) && (decide (cmpE (nth ys ((j : Int))) (nth ys ((j : Int) - 1)) < 0)))) := f6.v 16 rfl
    replace r0 : ownR EditE 42 (ys) (τ6 0) v w6 := f6.iown 0 rfl rfl
    clear f6
    show Code.wp _ _ _ a6 w6
    refine wp_cond_split (t := (decide ((a : Int) < (j : Int))) && (decide (cmpE (nth ys ((j : Int))) (nth ys ((j : Int) - 1)) < 0))) e34 (fun hc2 => ?_) (fun hc2 => ?_)
    · try simp only [Bool.and_eq_true, Bool.or_eq_true, decide_eq_true_eq, decide_eq_false_iff_not, Bool.not_eq_true', Bool.and_eq_false_iff, Bool.or_eq_false_iff, Bool.not_eq_false', Int.not_lt, Int.not_le, beq_iff_eq, selB] at hc2
      refine wp_skip ?_
      show Code.wp _ _ _ a6 w6
      refine wp_seq ?_
      refine wp_block ?_
      refine region_St (bf := [0, 0, 0, 0, 8, 0, 0, 64, 224, 480, 0, 0, 3072, 7168, 16355, 32739, 65535, 131071]) (sp := [
          (det (fun k => v.ownBlock = some k ∨ w.heap.size ≤ k) 37 v),
                (det (fun k => v.ownBlock = some k ∨ w.heap.size ≤ k) 38 (.int .i64 ((j : Int)))),
                (det (fun k => v.ownBlock = some k ∨ w.heap.size ≤ k) 39 v),
                (det (fun k => v.ownBlock = some k ∨ w.heap.size ≤ k) 40 (.int .i64 ((j : Int)))),
                (det (fun k => v.ownBlock = some k ∨ w.heap.size ≤ k) 41 (.int .i64 ((j : Int) - 1))),
                (det (fun k => v.ownBlock = some k ∨ w.heap.size ≤ k) 42 v),
                (det (fun k => v.ownBlock = some k ∨ w.heap.size ≤ k) 43 (.int .i64 ((j : Int)))),
                (det (fun k => v.ownBlock = some k ∨ w.heap.size ≤ k) 44 (.int .i64 ((j : Int) - 1))),
                (det (fun k => v.ownBlock = some k ∨ w.heap.size ≤ k) 45 (.pointer (some ((ptrOf v).add (((j : Int) - 1 : Int).toNat * 3))))),
                (det (fun k => v.ownBlock = some k ∨ w.heap.size ≤ k) 46 (.agg #[(.int .i64 ((nth ys ((j : Int) - 1)).1)), (.int .i64 ((nth ys ((j : Int) - 1)).2.1)), (.string ((nth ys ((j : Int) - 1)).2.2))])),
                (det (fun k => v.ownBlock = some k ∨ w.heap.size ≤ k) 47 v),
                (det (fun k => v.ownBlock = some k ∨ w.heap.size ≤ k) 48 (.int .i64 ((j : Int)))),
                (det (fun k => v.ownBlock = some k ∨ w.heap.size ≤ k) 49 (.pointer (some ((ptrOf v).add (((j : Int) : Int).toNat * 3))))),
                (det (fun k => v.ownBlock = some k ∨ w.heap.size ≤ k) 50 (.agg #[(.int .i64 ((nth ys ((j : Int))).1)), (.int .i64 ((nth ys ((j : Int))).2.1)), (.string ((nth ys ((j : Int))).2.2))])),
                (det (fun k => v.ownBlock = some k ∨ w.heap.size ≤ k) 51 (.pointer (some ((ptrOf v).add (((j : Int) : Int).toNat * 3))))),
                (own EditE 42 (fun k => v.ownBlock = some k ∨ w.heap.size ≤ k) 0 0 (ys.set ((j : Int)).toNat (nth ys ((j : Int) - 1)))),
                (det (fun k => v.ownBlock = some k ∨ w.heap.size ≤ k) 52 (.pointer (some ((ptrOf v).add (((j : Int) - 1 : Int).toNat * 3))))),
                (own EditE 42 (fun k => v.ownBlock = some k ∨ w.heap.size ≤ k) 0 0 ((ys.set ((j : Int)).toNat (nth ys ((j : Int) - 1))).set ((j : Int) - 1).toNat (nth ys ((j : Int)))))])
        [(iown EditE 42 (fun k => v.ownBlock = some k ∨ w.heap.size ≤ k) v (ys))] mixed st6 (by kernel_rfl) ⟨r0, trivial⟩
        ⟨Ob.det rfl rfl rfl (fun _ a_ _ _ c => r_move rfl (c.eo e0 (by kernel_rfl))),
               Ob.det rfl rfl rfl (fun _ a_ _ _ c => r_move rfl (c.eo e9 (by kernel_rfl))),
               Ob.det rfl rfl rfl (fun _ a_ _ _ c => r_move rfl (c.eo e0 (by kernel_rfl))),
               Ob.det rfl rfl rfl (fun _ a_ _ _ c => r_move rfl (c.eo e9 (by kernel_rfl))),
               Ob.det rfl rfl rfl (fun _ a_ _ _ c => r_sub rfl (c.ev 3 rfl rfl) rfl (by omega)),
               Ob.det rfl rfl rfl (fun _ a_ _ _ c => r_move rfl (c.eo e0 (by kernel_rfl))),
               Ob.det rfl rfl rfl (fun _ a_ _ _ c => r_move rfl (c.eo e9 (by kernel_rfl))),
               Ob.det rfl rfl rfl (fun _ a_ _ _ c => r_sub rfl (c.ev 6 rfl rfl) rfl (by omega)),
               Ob.det rfl rfl rfl (fun _ a_ _ _ c => r_indexAddr rfl Try.underlying37 Try.sizeOf42 (c.ev 5 rfl rfl) r0.isSl (c.ev 7 rfl rfl) (by omega) (by omega)),
               Ob.det rfl rfl rfl (fun _ a_ _ _ c => r_loadN (vs := [(.int .i64 ((nth ys ((j : Int) - 1)).1)), (.int .i64 ((nth ys ((j : Int) - 1)).2.1)), (.string ((nth ys ((j : Int) - 1)).2.2))]) rfl Try.isAgg42 Try.sizeOf42 (c.ev 8 rfl rfl) rfl (fun _ _ hj => ((c.iown 0 rfl rfl (by kernel_rfl)).1.sl).elem (nth_some (by omega) (by omega)) hj)),
               Ob.det rfl rfl rfl (fun _ a_ _ _ c => r_move rfl (c.eo e0 (by kernel_rfl))),
               Ob.det rfl rfl rfl (fun _ a_ _ _ c => r_move rfl (c.eo e9 (by kernel_rfl))),
               Ob.det rfl rfl rfl (fun _ a_ _ _ c => r_indexAddr rfl Try.underlying37 Try.sizeOf42 (c.ev 10 rfl rfl) r0.isSl (c.ev 11 rfl rfl) (by omega) (by omega)),
               Ob.det rfl rfl rfl (fun _ a_ _ _ c => r_loadN (vs := [(.int .i64 ((nth ys ((j : Int))).1)), (.int .i64 ((nth ys ((j : Int))).2.1)), (.string ((nth ys ((j : Int))).2.2))]) rfl Try.isAgg42 Try.sizeOf42 (c.ev 12 rfl rfl) rfl (fun _ _ hj => ((c.iown 0 rfl rfl (by kernel_rfl)).1.sl).elem (nth_some (by omega) (by omega)) hj)),
               Ob.det rfl rfl rfl (fun _ a_ _ _ c => r_indexAddr rfl Try.underlying37 Try.sizeOf42 (c.ev 0 rfl rfl) r0.isSl (c.ev 1 rfl rfl) (by omega) (by omega)),
               Ob.storeElem (E := EditE) (i := ((j : Int)).toNat) (off := 0) (u := (.agg #[(.int .i64 ((nth ys ((j : Int) - 1)).1)), (.int .i64 ((nth ys ((j : Int) - 1)).2.1)), (.string ((nth ys ((j : Int) - 1)).2.2))])) (x := nth ys ((j : Int))) (x' := (nth ys ((j : Int) - 1))) rfl rfl rfl rfl Try.sizeOf42 (nth_some (by omega) (by (try simp only [List.length_set]); omega)) (Nat.le_of_ble_eq_true rfl) (by simp [Value.cells, Value.oneCell']) rfl (fun _ a_ _ _ c => ⟨by rw [(show get _ 0 = v from c.old e0 (by kernel_rfl))]; exact c.iown 0 rfl rfl (by kernel_rfl), (by rw [(c.ev 14 rfl rfl), (show get _ 0 = v from c.old e0 (by kernel_rfl))]; rfl), (c.ev 9 rfl rfl)⟩),
               Ob.det rfl rfl rfl (fun _ a_ _ _ c => r_indexAddr rfl Try.underlying37 Try.sizeOf42 (c.ev 2 rfl rfl) r0.isSl (c.ev 4 rfl rfl) (by omega) (by omega)),
               Ob.storeElem (E := EditE) (i := ((j : Int) - 1).toNat) (off := 0) (u := (.agg #[(.int .i64 ((nth ys ((j : Int))).1)), (.int .i64 ((nth ys ((j : Int))).2.1)), (.string ((nth ys ((j : Int))).2.2))])) (x := nth (ys.set ((j : Int)).toNat (nth ys ((j : Int) - 1))) ((j : Int) - 1)) (x' := (nth ys ((j : Int)))) rfl rfl rfl rfl Try.sizeOf42 (nth_some (by omega) (by (try simp only [List.length_set]); omega)) (Nat.le_of_ble_eq_true rfl) (by simp [Value.cells, Value.oneCell']) rfl (fun _ a_ _ _ c => ⟨c.rown 15 rfl rfl (by kernel_rfl), (by rw [(c.ev 16 rfl rfl), (show get _ 0 = v from c.old e0 (by kernel_rfl))]; rfl), (c.ev 13 rfl rfl)⟩),
         trivial⟩ ?_
      intro a7 w7 τ7 st7 f7
      replace e0 := f7.old e0 (by kernel_rfl)
      replace e1 := f7.old e1 (by kernel_rfl)
      replace e2 := f7.old e2 (by kernel_rfl)
      replace e3 := f7.old e3 (by kernel_rfl)
      replace e8 := f7.old e8 (by kernel_rfl)
      replace e9 := f7.old e9 (by kernel_rfl)
      replace e14 := f7.old e14 (by kernel_rfl)
      replace e34 := f7.old e34 (by kernel_rfl)
      have r0 : ownR EditE 42 ((ys.set ((j : Int)).toNat (nth ys ((j : Int) - 1))).set ((j : Int) - 1).toNat (nth ys ((j : Int)))) (τ7 0) v w7 := f7.rown 17 rfl rfl e0
      clear f7
      show _
      show Code.wp _ _ _ a7 w7
      refine region_St (bf := [0, 1, 3]) (sp := [
          (det (fun k => v.ownBlock = some k ∨ w.heap.size ≤ k) 35 (.int .i64 ((j : Int)))),
                (det (fun k => v.ownBlock = some k ∨ w.heap.size ≤ k) 36 (.int .i64 ((j : Int) - 1))),
                (det (fun k => v.ownBlock = some k ∨ w.heap.size ≤ k) 9 (.int .i64 ((j : Int) - 1)))])
        [(iown EditE 42 (fun k => v.ownBlock = some k ∨ w.heap.size ≤ k) v ((ys.set ((j : Int)).toNat (nth ys ((j : Int) - 1))).set ((j : Int) - 1).toNat (nth ys ((j : Int)))))] mixed st7 (by kernel_rfl) ⟨r0, trivial⟩
        ⟨Ob.det rfl rfl rfl (fun _ a_ _ _ c => r_move rfl (c.eo e9 (by kernel_rfl))),
               Ob.det rfl rfl rfl (fun _ a_ _ _ c => r_sub rfl (c.ev 0 rfl rfl) rfl (by omega)),
               Ob.det rfl rfl rfl (fun _ a_ _ _ c => r_assign rfl (c.ev 1 rfl rfl)),
         trivial⟩ ?_
      intro a8 w8 τ8 st8 f8
      replace e0 := f8.old e0 (by kernel_rfl)
      replace e1 := f8.old e1 (by kernel_rfl)
      replace e2 := f8.old e2 (by kernel_rfl)
      replace e3 := f8.old e3 (by kernel_rfl)
      replace e8 := f8.old e8 (by kernel_rfl)
      have e9 : get a8 9 = (.int .i64 ((j : Int) - 1)) := f8.v 2 rfl
      replace e14 := f8.old e14 (by kernel_rfl)
      replace e34 := f8.old e34 (by kernel_rfl)
      replace r0 : ownR EditE 42 ((ys.set ((j : Int)).toNat (nth ys ((j : Int) - 1))).set ((j : Int) - 1).toNat (nth ys ((j : Int)))) (τ8 0) v w8 := f8.iown 0 rfl rfl
      clear f8
      refine ⟨⟨j - 1, swp ys (j : Int) ((j : Int) - 1), τ8, ?_, ?_, ?_, ?_, st8, (e9.trans (int_eq (by omega))), e0, e1, e2, e3, e8, e14, ?_⟩, ?_⟩
      · omega
      · omega
      · rw [swp_len]; exact q2
      · exact (bub_step (by omega) (by simp only [ltE, decide_eq_true_eq]; omega)).symm.trans q3
      · exact r0.cast (by rfl)
      · simp only [m9, e9, intOf]; omega
    try simp only [Bool.and_eq_true, Bool.or_eq_true, decide_eq_true_eq, decide_eq_false_iff_not, Bool.not_eq_true', Bool.and_eq_false_iff, Bool.or_eq_false_iff, Bool.not_eq_false', Int.not_lt, Int.not_le, beq_iff_eq, selB] at hc2
    refine wp_exit ?_
    repeat (with_reducible refine then_exit ?_)
    refine exit_here ?_
    show _
    show Code.wp _ _ _ a6 w6
    refine region_St (bf := [0, 1, 3]) (sp := [
        (det (fun k => v.ownBlock = some k ∨ w.heap.size ≤ k) 15 (.int .i64 ((a : Int) + 1 + (n : Int)))),
            (det (fun k => v.ownBlock = some k ∨ w.heap.size ≤ k) 16 (.int .i64 ((a : Int) + 1 + (n : Int) + 1))),
            (det (fun k => v.ownBlock = some k ∨ w.heap.size ≤ k) 8 (.int .i64 ((a : Int) + 1 + (n : Int) + 1)))])
      [(iown EditE 42 (fun k => v.ownBlock = some k ∨ w.heap.size ≤ k) v (ys))] mixed st6 (by kernel_rfl) ⟨r0, trivial⟩
      ⟨Ob.det rfl rfl rfl (fun _ a_ _ _ c => r_move rfl (c.eo e8 (by kernel_rfl))),
           Ob.det rfl rfl rfl (fun _ a_ _ _ c => r_add rfl (c.ev 0 rfl rfl) rfl (by omega)),
           Ob.det rfl rfl rfl (fun _ a_ _ _ c => r_assign rfl (c.ev 1 rfl rfl)),
       trivial⟩ ?_
    intro a9 w9 τ9 st9 f9
    replace e0 := f9.old e0 (by kernel_rfl)
    replace e1 := f9.old e1 (by kernel_rfl)
    replace e2 := f9.old e2 (by kernel_rfl)
    replace e3 := f9.old e3 (by kernel_rfl)
    have e8 : get a9 8 = (.int .i64 ((a : Int) + 1 + (n : Int) + 1)) := f9.v 2 rfl
    replace e9 := f9.old e9 (by kernel_rfl)
    replace e14 := f9.old e14 (by kernel_rfl)
    replace e34 := f9.old e34 (by kernel_rfl)
    replace r0 : ownR EditE 42 (ys) (τ9 0) v w9 := f9.iown 0 rfl rfl
    clear f9
    refine ⟨⟨n + 1, τ9, ?_, st9, (e8.trans (int_eq (by omega))), e0, e1, e2, e3, ?_⟩, ?_⟩
    · omega
    · exact r0.cast (by exact (((bub_stop (by rintro ⟨g1, g2⟩; simp only [ltE, decide_eq_true_eq] at g2; omega)).symm).trans q3).symm)
    · simp only [m8, e8, intOf]; omega
  try simp only [Bool.and_eq_true, Bool.or_eq_true, decide_eq_true_eq, decide_eq_false_iff_not, Bool.not_eq_true', Bool.and_eq_false_iff, Bool.or_eq_false_iff, Bool.not_eq_false', Int.not_lt, Int.not_le, beq_iff_eq, selB] at hc1
  refine wp_exit ?_
  repeat (with_reducible refine then_exit ?_)
  refine exit_here ?_
  refine end0 (fn := Try.f45) rfl st3.defers ?_
  obtain rfl : n = b - (a + 1) := by omega
  rw [insSeq_eq h1 h2] at r0
  exact ⟨rfl, r0.1, st3.extIn⟩

theorem editIns_c (v : Value) (xs : List (Int × Int × ByteArray)) (a b : Int) (w : World) (ho : OwnT EditE 42 w v xs) (ha : 0 ≤ a) (h1 : a ≤ b) (h2 : b ≤ xs.length) (hbig : xs.length ≤ 1000000000000) : Calls Try.prog 45 #[v, .int .i64 a, .int .i64 b, (.func (.func 40) #[] #[])] w (fun e w' => e = .returned (.tuple #[]) ∧ OwnT EditE 42 w' v (insF ltE xs a.toNat b.toNat) ∧ Ext (fun k => v.ownBlock = some k) w w') := by
  obtain ⟨a, rfl⟩ := Int.eq_ofNat_of_zero_le ha
  obtain ⟨b, rfl⟩ := Int.eq_ofNat_of_zero_le (Int.le_trans ha h1)
  exact editIns_n v xs a b w ho (by omega) (by omega) hbig

set_option maxRecDepth 100000 in
theorem editRot_n (v : Value) (xs : List (Int × Int × ByteArray)) (a m b : Nat) (w : World) (ho : OwnT EditE 42 w v xs) (h1 : a < m) (h2 : m < b) (h3 : b ≤ xs.length) : Calls Try.prog 48 #[v, (.int .i64 ((a : Int))), (.int .i64 ((m : Int))), (.int .i64 ((b : Int))), (.func (.func 40) #[] #[])] w (fun e w' => e = .returned (.tuple #[]) ∧ OwnT EditE 42 w' v (rotF xs a m b) ∧ Ext (fun k => v.ownBlock = some k) w w') := by
  refine enterIn (fun g => v.ownBlock = some g) (fun g hg => ho.lt g hg) (n := 58) Try.func48 rfl rfl (Nat.le_of_ble_eq_true rfl) ?_
  intro a0 τ0 ha hτ st0
  have e0 : get a0 0 = v := ha 0 _ rfl
  have e1 : get a0 1 = (.int .i64 ((a : Int))) := ha 1 _ rfl
  have e2 : get a0 2 = (.int .i64 ((m : Int))) := ha 2 _ rfl
  have e3 : get a0 3 = (.int .i64 ((b : Int))) := ha 3 _ rfl
  have e4 : get a0 4 = (.func (.func 40) #[] #[]) := ha 4 _ rfl
  clear ha
  have r0 : ownR EditE 42 xs (τ0 0) v w := ⟨ho, fun g hg => by rw [hτ]; exact hg⟩
  have hle := r0.le
  refine wp_seq ?_
  refine region_St (bf := [0, 0, 3, 7]) (sp := [
      (det (fun k => v.ownBlock = some k ∨ w.heap.size ≤ k) 12 (.int .i64 ((m : Int)))),
        (det (fun k => v.ownBlock = some k ∨ w.heap.size ≤ k) 13 (.int .i64 ((a : Int)))),
        (det (fun k => v.ownBlock = some k ∨ w.heap.size ≤ k) 14 (.int .i64 ((m : Int) - (a : Int)))),
        (det (fun k => v.ownBlock = some k ∨ w.heap.size ≤ k) 10 (.int .i64 ((m : Int) - (a : Int))))])
    [(iown EditE 42 (fun k => v.ownBlock = some k ∨ w.heap.size ≤ k) v (xs))] mixed st0 (by kernel_rfl) ⟨r0, trivial⟩
    ⟨Ob.det rfl rfl rfl (fun _ a_ _ _ c => r_move rfl (c.eo e2 (by kernel_rfl))),
       Ob.det rfl rfl rfl (fun _ a_ _ _ c => r_move rfl (c.eo e1 (by kernel_rfl))),
       Ob.det rfl rfl rfl (fun _ a_ _ _ c => r_sub rfl (c.ev 0 rfl rfl) (c.ev 1 rfl rfl) (by omega)),
       Ob.det rfl rfl rfl (fun _ a_ _ _ c => r_assign rfl (c.ev 2 rfl rfl)),
     trivial⟩ ?_
  intro a1 w1 τ1 st1 f1
  replace e0 := f1.old e0 (by kernel_rfl)
  replace e2 := f1.old e2 (by kernel_rfl)
  replace e3 := f1.old e3 (by kernel_rfl)
  replace e4 := f1.old e4 (by kernel_rfl)
  have e10 : get a1 10 = (.int .i64 ((m : Int) - (a : Int))) := f1.v 3 rfl
  replace r0 : ownR EditE 42 (xs) (τ1 0) v w1 := f1.iown 0 rfl rfl
  clear f1
  show Code.wp _ _ _ a1 w1
  refine wp_seq ?_
  refine region_St (bf := [0, 0, 3, 7]) (sp := [
      (det (fun k => v.ownBlock = some k ∨ w.heap.size ≤ k) 15 (.int .i64 ((b : Int)))),
        (det (fun k => v.ownBlock = some k ∨ w.heap.size ≤ k) 16 (.int .i64 ((m : Int)))),
        (det (fun k => v.ownBlock = some k ∨ w.heap.size ≤ k) 17 (.int .i64 ((b : Int) - (m : Int)))),
        (det (fun k => v.ownBlock = some k ∨ w.heap.size ≤ k) 11 (.int .i64 ((b : Int) - (m : Int))))])
    [(iown EditE 42 (fun k => v.ownBlock = some k ∨ w.heap.size ≤ k) v (xs))] mixed st1 (by kernel_rfl) ⟨r0, trivial⟩
    ⟨Ob.det rfl rfl rfl (fun _ a_ _ _ c => r_move rfl (c.eo e3 (by kernel_rfl))),
       Ob.det rfl rfl rfl (fun _ a_ _ _ c => r_move rfl (c.eo e2 (by kernel_rfl))),
       Ob.det rfl rfl rfl (fun _ a_ _ _ c => r_sub rfl (c.ev 0 rfl rfl) (c.ev 1 rfl rfl) (by omega)),
       Ob.det rfl rfl rfl (fun _ a_ _ _ c => r_assign rfl (c.ev 2 rfl rfl)),
     trivial⟩ ?_
  intro a2 w2 τ2 st2 f2
  replace e0 := f2.old e0 (by kernel_rfl)
  replace e2 := f2.old e2 (by kernel_rfl)
  replace e4 := f2.old e4 (by kernel_rfl)
  replace e10 := f2.old e10 (by kernel_rfl)
  have e11 : get a2 11 = (.int .i64 ((b : Int) - (m : Int))) := f2.v 3 rfl
  replace r0 : ownR EditE 42 (xs) (τ2 0) v w2 := f2.iown 0 rfl rfl
  clear f2
  show Code.wp _ _ _ a2 w2
  refine wp_seq ?_
  refine wp_block ?_
  refine wp_loop (fun a_ w_ => ∃ (f i j : Nat) (ys : List (Int × Int × ByteArray)) (τ : Nat → Foot), (1 ≤ i) ∧
        (1 ≤ j) ∧
        (i ≤ m) ∧
        (m + j ≤ xs.length) ∧
        (ys.length = xs.length) ∧
        (i + j ≤ f + 2) ∧
        (rotG f ys m i j = rotF xs a m b) ∧
        St (fun k => v.ownBlock = some k ∨ w.heap.size ≤ k) w 58 a_ w_ τ ∧
        get a_ 10 = (.int .i64 ((i : Int))) ∧
        get a_ 11 = (.int .i64 ((j : Int))) ∧
        get a_ 0 = v ∧
        get a_ 2 = (.int .i64 ((m : Int))) ∧
        get a_ 4 = (.func (.func 40) #[] #[]) ∧
        ownR EditE 42 (ys) (τ 0) v w_) (fun a_ _ => (intOf (get a_ 10)).toNat + (intOf (get a_ 11)).toNat) ?_ ?_
  · refine ⟨b - a, m - a, b - m, xs, τ2, ?_, ?_, ?_, ?_, ?_, ?_, ?_, st2, (e10.trans (int_eq (by omega))), (e11.trans (int_eq (by omega))), e0, e2, e4, ?_⟩
    · omega
    · omega
    · omega
    · omega
    · rfl
    · omega
    · exact rotG_eq (by omega) (by omega) (by omega) (by omega)
    · exact r0.cast (by rfl)
  intro a3 w3 hI
  obtain ⟨f, i, j, ys, τ3, q0, q1, q2, q3, q4, q5, q6, st3, e10, e11, e0, e2, e4, r0⟩ := hI
  have m10 := e10
  have m11 := e11
  refine wp_seq ?_
  refine wp_seq ?_
  refine region_St (bf := [0, 0, 3]) (sp := [
      (det (fun k => v.ownBlock = some k ∨ w.heap.size ≤ k) 18 (.int .i64 ((i : Int)))),
        (det (fun k => v.ownBlock = some k ∨ w.heap.size ≤ k) 19 (.int .i64 ((j : Int)))),
        (det (fun k => v.ownBlock = some k ∨ w.heap.size ≤ k) 20 (.bool (!decide ((i : Int) = (j : Int)))))])
    [(iown EditE 42 (fun k => v.ownBlock = some k ∨ w.heap.size ≤ k) v (ys))] mixed st3 (by kernel_rfl) ⟨r0, trivial⟩
    ⟨Ob.det rfl rfl rfl (fun _ a_ _ _ c => r_move rfl (c.eo e10 (by kernel_rfl))),
       Ob.det rfl rfl rfl (fun _ a_ _ _ c => r_move rfl (c.eo e11 (by kernel_rfl))),
       Ob.det rfl rfl rfl (fun _ a_ _ _ c => r_neq rfl (c.ev 0 rfl rfl) (c.ev 1 rfl rfl)),
     trivial⟩ ?_
  intro a4 w4 τ4 st4 f4
  replace e0 := f4.old e0 (by kernel_rfl)
  replace e2 := f4.old e2 (by kernel_rfl)
  replace e4 := f4.old e4 (by kernel_rfl)
  replace e10 := f4.old e10 (by kernel_rfl)
  replace e11 := f4.old e11 (by kernel_rfl)
  have e20 : get a4 20 = (.bool (!decide ((i : Int) = (j : Int)))) := f4.v 2 rfl
  replace r0 : ownR EditE 42 (ys) (τ4 0) v w4 := f4.iown 0 rfl rfl
  clear f4
  show Code.wp _ _ _ a4 w4
  refine wp_cond_split (t := !decide ((i : Int) = (j : Int))) e20 (fun hc1 => ?_) (fun hc1 => ?_)
  · try simp only [Bool.and_eq_true, Bool.or_eq_true, decide_eq_true_eq, decide_eq_false_iff_not, Bool.not_eq_true', Bool.and_eq_false_iff, Bool.or_eq_false_iff, Bool.not_eq_false', Int.not_lt, Int.not_le, beq_iff_eq, selB] at hc1
    refine wp_skip ?_
    show Code.wp _ _ _ a4 w4
    refine wp_block ?_
    refine wp_seq ?_
    refine region_St (bf := [0, 0, 3]) (sp := [
        (det (fun k => v.ownBlock = some k ∨ w.heap.size ≤ k) 21 (.int .i64 ((i : Int)))),
            (det (fun k => v.ownBlock = some k ∨ w.heap.size ≤ k) 22 (.int .i64 ((j : Int)))),
            (det (fun k => v.ownBlock = some k ∨ w.heap.size ≤ k) 23 (.bool (decide ((j : Int) < (i : Int)))))])
      [(iown EditE 42 (fun k => v.ownBlock = some k ∨ w.heap.size ≤ k) v (ys))] mixed st4 (by kernel_rfl) ⟨r0, trivial⟩
      ⟨Ob.det rfl rfl rfl (fun _ a_ _ _ c => r_move rfl (c.eo e10 (by kernel_rfl))),
           Ob.det rfl rfl rfl (fun _ a_ _ _ c => r_move rfl (c.eo e11 (by kernel_rfl))),
           Ob.det rfl rfl rfl (fun _ a_ _ _ c => r_gtr rfl (c.ev 0 rfl rfl) (c.ev 1 rfl rfl)),
       trivial⟩ ?_
    intro a5 w5 τ5 st5 f5
    replace e0 := f5.old e0 (by kernel_rfl)
    replace e2 := f5.old e2 (by kernel_rfl)
    replace e4 := f5.old e4 (by kernel_rfl)
    replace e10 := f5.old e10 (by kernel_rfl)
    replace e11 := f5.old e11 (by kernel_rfl)
    replace e20 := f5.old e20 (by kernel_rfl)
    have e23 : get a5 23 = (.bool (decide ((j : Int) < (i : Int)))) := f5.v 2 rfl
    replace r0 : ownR EditE 42 (ys) (τ5 0) v w5 := f5.iown 0 rfl rfl
    clear f5
    show Code.wp _ _ _ a5 w5
    refine wp_cond_split (t := decide ((j : Int) < (i : Int))) e23 (fun hc2 => ?_) (fun hc2 => ?_)
    · try simp only [Bool.and_eq_true, Bool.or_eq_true, decide_eq_true_eq, decide_eq_false_iff_not, Bool.not_eq_true', Bool.and_eq_false_iff, Bool.or_eq_false_iff, Bool.not_eq_false', Int.not_lt, Int.not_le, beq_iff_eq, selB] at hc2
      refine wp_seq ?_
      refine region_St (bf := [0, 0, 0, 6, 0, 0, 0, 127]) (sp := [
          (det (fun k => v.ownBlock = some k ∨ w.heap.size ≤ k) 24 v),
                (det (fun k => v.ownBlock = some k ∨ w.heap.size ≤ k) 25 (.int .i64 ((m : Int)))),
                (det (fun k => v.ownBlock = some k ∨ w.heap.size ≤ k) 26 (.int .i64 ((i : Int)))),
                (det (fun k => v.ownBlock = some k ∨ w.heap.size ≤ k) 27 (.int .i64 ((m : Int) - (i : Int)))),
                (det (fun k => v.ownBlock = some k ∨ w.heap.size ≤ k) 28 (.int .i64 ((m : Int)))),
                (det (fun k => v.ownBlock = some k ∨ w.heap.size ≤ k) 29 (.int .i64 ((j : Int)))),
                (det (fun k => v.ownBlock = some k ∨ w.heap.size ≤ k) 30 (.func (.func 40) #[] #[])),
                (own EditE 42 (fun k => v.ownBlock = some k ∨ w.heap.size ≤ k) 0 0 (swR ys ((m : Int) - (i : Int)).toNat (m : Int).toNat (j : Int).toNat))])
        [(iown EditE 42 (fun k => v.ownBlock = some k ∨ w.heap.size ≤ k) v (ys))] mixed st5 (by kernel_rfl) ⟨r0, trivial⟩
        ⟨Ob.det rfl rfl rfl (fun _ a_ _ _ c => r_move rfl (c.eo e0 (by kernel_rfl))),
               Ob.det rfl rfl rfl (fun _ a_ _ _ c => r_move rfl (c.eo e2 (by kernel_rfl))),
               Ob.det rfl rfl rfl (fun _ a_ _ _ c => r_move rfl (c.eo e10 (by kernel_rfl))),
               Ob.det rfl rfl rfl (fun _ a_ _ _ c => r_sub rfl (c.ev 1 rfl rfl) (c.ev 2 rfl rfl) (by omega)),
               Ob.det rfl rfl rfl (fun _ a_ _ _ c => r_move rfl (c.eo e2 (by kernel_rfl))),
               Ob.det rfl rfl rfl (fun _ a_ _ _ c => r_move rfl (c.eo e11 (by kernel_rfl))),
               Ob.det rfl rfl rfl (fun _ a_ _ _ c => r_move rfl (c.eo e4 (by kernel_rfl))),
               Ob.callIn rfl rfl rfl (by decide) (fun _ a_ _ _ c => ⟨_, _, (e_call5 rfl rfl Try.call49 (c.ev 0 rfl rfl) (c.ev 3 rfl rfl) (c.ev 4 rfl rfl) (c.ev 5 rfl rfl) (c.ev 6 rfl rfl)), c.old e0 (by kernel_rfl), c.iown 0 rfl rfl (by kernel_rfl), fun ho_ => editSwap_c v ys ((m : Int) - (i : Int)) (m : Int) (j : Int) _ ho_ (by omega) (by omega) (by omega) (by omega) (by omega)⟩),
         trivial⟩ ?_
      intro a6 w6 τ6 st6 f6
      replace e0 := f6.old e0 (by kernel_rfl)
      replace e2 := f6.old e2 (by kernel_rfl)
      replace e4 := f6.old e4 (by kernel_rfl)
      replace e10 := f6.old e10 (by kernel_rfl)
      replace e11 := f6.old e11 (by kernel_rfl)
      replace e20 := f6.old e20 (by kernel_rfl)
      replace e23 := f6.old e23 (by kernel_rfl)
      have r0 : ownR EditE 42 (swR ys ((m : Int) - (i : Int)).toNat (m : Int).toNat (j : Int).toNat) (τ6 0) v w6 := f6.rown 7 rfl rfl e0
      clear f6
      show Code.wp _ _ _ a6 w6
      refine region_St (bf := [0, 0, 3, 7]) (sp := [
          (det (fun k => v.ownBlock = some k ∨ w.heap.size ≤ k) 32 (.int .i64 ((i : Int)))),
                (det (fun k => v.ownBlock = some k ∨ w.heap.size ≤ k) 33 (.int .i64 ((j : Int)))),
                (det (fun k => v.ownBlock = some k ∨ w.heap.size ≤ k) 34 (.int .i64 ((i : Int) - (j : Int)))),
                (det (fun k => v.ownBlock = some k ∨ w.heap.size ≤ k) 10 (.int .i64 ((i : Int) - (j : Int))))])
        [(iown EditE 42 (fun k => v.ownBlock = some k ∨ w.heap.size ≤ k) v (swR ys ((m : Int) - (i : Int)).toNat (m : Int).toNat (j : Int).toNat))] mixed st6 (by kernel_rfl) ⟨r0, trivial⟩
        ⟨Ob.det rfl rfl rfl (fun _ a_ _ _ c => r_move rfl (c.eo e10 (by kernel_rfl))),
               Ob.det rfl rfl rfl (fun _ a_ _ _ c => r_move rfl (c.eo e11 (by kernel_rfl))),
               Ob.det rfl rfl rfl (fun _ a_ _ _ c => r_sub rfl (c.ev 0 rfl rfl) (c.ev 1 rfl rfl) (by omega)),
               Ob.det rfl rfl rfl (fun _ a_ _ _ c => r_assign rfl (c.ev 2 rfl rfl)),
         trivial⟩ ?_
      intro a7 w7 τ7 st7 f7
      replace e0 := f7.old e0 (by kernel_rfl)
      replace e2 := f7.old e2 (by kernel_rfl)
      replace e4 := f7.old e4 (by kernel_rfl)
      have e10 : get a7 10 = (.int .i64 ((i : Int) - (j : Int))) := f7.v 3 rfl
      replace e11 := f7.old e11 (by kernel_rfl)
      replace e20 := f7.old e20 (by kernel_rfl)
      replace e23 := f7.old e23 (by kernel_rfl)
      replace r0 : ownR EditE 42 (swR ys ((m : Int) - (i : Int)).toNat (m : Int).toNat (j : Int).toNat) (τ7 0) v w7 := f7.iown 0 rfl rfl
      clear f7
      show _
      refine ⟨⟨f - 1, i - j, j, swR ys ((m : Int) - (i : Int)).toNat (m : Int).toNat (j : Int).toNat, τ7, ?_, ?_, ?_, ?_, ?_, ?_, ?_, st7, (e10.trans (int_eq (by omega))), (e11.trans (int_eq (by omega))), e0, e2, e4, ?_⟩, ?_⟩
      · omega
      · omega
      · omega
      · omega
      · rw [swR_len]; exact q4
      · omega
      · rcases Nat.lt_trichotomy i j with h_ | h_ | h_
        · first | omega | (rw [rotG_lt h_ (by omega)] at q6; simpa only [Int.toNat_natCast, tn, tn2] using q6)
        · omega
        · first | omega | (rw [rotG_gt h_ (by omega)] at q6; simpa only [Int.toNat_natCast, tn, tn2] using q6)
      · exact r0.cast (by rfl)
      · simp only [m10, m11, e10, e11, intOf]; omega
    try simp only [Bool.and_eq_true, Bool.or_eq_true, decide_eq_true_eq, decide_eq_false_iff_not, Bool.not_eq_true', Bool.and_eq_false_iff, Bool.or_eq_false_iff, Bool.not_eq_false', Int.not_lt, Int.not_le, beq_iff_eq, selB] at hc2
    refine wp_seq ?_
    refine region_St (bf := [0, 0, 0, 6, 0, 0, 48, 0, 240, 0, 0, 2047]) (sp := [
        (det (fun k => v.ownBlock = some k ∨ w.heap.size ≤ k) 35 v),
            (det (fun k => v.ownBlock = some k ∨ w.heap.size ≤ k) 36 (.int .i64 ((m : Int)))),
            (det (fun k => v.ownBlock = some k ∨ w.heap.size ≤ k) 37 (.int .i64 ((i : Int)))),
            (det (fun k => v.ownBlock = some k ∨ w.heap.size ≤ k) 38 (.int .i64 ((m : Int) - (i : Int)))),
            (det (fun k => v.ownBlock = some k ∨ w.heap.size ≤ k) 39 (.int .i64 ((m : Int)))),
            (det (fun k => v.ownBlock = some k ∨ w.heap.size ≤ k) 40 (.int .i64 ((j : Int)))),
            (det (fun k => v.ownBlock = some k ∨ w.heap.size ≤ k) 41 (.int .i64 ((m : Int) + (j : Int)))),
            (det (fun k => v.ownBlock = some k ∨ w.heap.size ≤ k) 42 (.int .i64 ((i : Int)))),
            (det (fun k => v.ownBlock = some k ∨ w.heap.size ≤ k) 43 (.int .i64 ((m : Int) + (j : Int) - (i : Int)))),
            (det (fun k => v.ownBlock = some k ∨ w.heap.size ≤ k) 44 (.int .i64 ((i : Int)))),
            (det (fun k => v.ownBlock = some k ∨ w.heap.size ≤ k) 45 (.func (.func 40) #[] #[])),
            (own EditE 42 (fun k => v.ownBlock = some k ∨ w.heap.size ≤ k) 0 0 (swR ys ((m : Int) - (i : Int)).toNat ((m : Int) + (j : Int) - (i : Int)).toNat (i : Int).toNat))])
      [(iown EditE 42 (fun k => v.ownBlock = some k ∨ w.heap.size ≤ k) v (ys))] mixed st5 (by kernel_rfl) ⟨r0, trivial⟩
      ⟨Ob.det rfl rfl rfl (fun _ a_ _ _ c => r_move rfl (c.eo e0 (by kernel_rfl))),
           Ob.det rfl rfl rfl (fun _ a_ _ _ c => r_move rfl (c.eo e2 (by kernel_rfl))),
           Ob.det rfl rfl rfl (fun _ a_ _ _ c => r_move rfl (c.eo e10 (by kernel_rfl))),
           Ob.det rfl rfl rfl (fun _ a_ _ _ c => r_sub rfl (c.ev 1 rfl rfl) (c.ev 2 rfl rfl) (by omega)),
           Ob.det rfl rfl rfl (fun _ a_ _ _ c => r_move rfl (c.eo e2 (by kernel_rfl))),
           Ob.det rfl rfl rfl (fun _ a_ _ _ c => r_move rfl (c.eo e11 (by kernel_rfl))),
           Ob.det rfl rfl rfl (fun _ a_ _ _ c => r_add rfl (c.ev 4 rfl rfl) (c.ev 5 rfl rfl) (by omega)),
           Ob.det rfl rfl rfl (fun _ a_ _ _ c => r_move rfl (c.eo e10 (by kernel_rfl))),
           Ob.det rfl rfl rfl (fun _ a_ _ _ c => r_sub rfl (c.ev 6 rfl rfl) (c.ev 7 rfl rfl) (by omega)),
           Ob.det rfl rfl rfl (fun _ a_ _ _ c => r_move rfl (c.eo e10 (by kernel_rfl))),
           Ob.det rfl rfl rfl (fun _ a_ _ _ c => r_move rfl (c.eo e4 (by kernel_rfl))),
           Ob.callIn rfl rfl rfl (by decide) (fun _ a_ _ _ c => ⟨_, _, (e_call5 rfl rfl Try.call49 (c.ev 0 rfl rfl) (c.ev 3 rfl rfl) (c.ev 8 rfl rfl) (c.ev 9 rfl rfl) (c.ev 10 rfl rfl)), c.old e0 (by kernel_rfl), c.iown 0 rfl rfl (by kernel_rfl), fun ho_ => editSwap_c v ys ((m : Int) - (i : Int)) ((m : Int) + (j : Int) - (i : Int)) (i : Int) _ ho_ (by omega) (by omega) (by omega) (by omega) (by omega)⟩),
       trivial⟩ ?_
    intro a8 w8 τ8 st8 f8
    replace e0 := f8.old e0 (by kernel_rfl)
    replace e2 := f8.old e2 (by kernel_rfl)
    replace e4 := f8.old e4 (by kernel_rfl)
    replace e10 := f8.old e10 (by kernel_rfl)
    replace e11 := f8.old e11 (by kernel_rfl)
    replace e20 := f8.old e20 (by kernel_rfl)
    replace e23 := f8.old e23 (by kernel_rfl)
    have r0 : ownR EditE 42 (swR ys ((m : Int) - (i : Int)).toNat ((m : Int) + (j : Int) - (i : Int)).toNat (i : Int).toNat) (τ8 0) v w8 := f8.rown 11 rfl rfl e0
    clear f8
    show Code.wp _ _ _ a8 w8
    refine region_St (bf := [0, 0, 3, 7]) (sp := [
        (det (fun k => v.ownBlock = some k ∨ w.heap.size ≤ k) 47 (.int .i64 ((j : Int)))),
            (det (fun k => v.ownBlock = some k ∨ w.heap.size ≤ k) 48 (.int .i64 ((i : Int)))),
            (det (fun k => v.ownBlock = some k ∨ w.heap.size ≤ k) 49 (.int .i64 ((j : Int) - (i : Int)))),
            (det (fun k => v.ownBlock = some k ∨ w.heap.size ≤ k) 11 (.int .i64 ((j : Int) - (i : Int))))])
      [(iown EditE 42 (fun k => v.ownBlock = some k ∨ w.heap.size ≤ k) v (swR ys ((m : Int) - (i : Int)).toNat ((m : Int) + (j : Int) - (i : Int)).toNat (i : Int).toNat))] mixed st8 (by kernel_rfl) ⟨r0, trivial⟩
      ⟨Ob.det rfl rfl rfl (fun _ a_ _ _ c => r_move rfl (c.eo e11 (by kernel_rfl))),
           Ob.det rfl rfl rfl (fun _ a_ _ _ c => r_move rfl (c.eo e10 (by kernel_rfl))),
           Ob.det rfl rfl rfl (fun _ a_ _ _ c => r_sub rfl (c.ev 0 rfl rfl) (c.ev 1 rfl rfl) (by omega)),
           Ob.det rfl rfl rfl (fun _ a_ _ _ c => r_assign rfl (c.ev 2 rfl rfl)),
       trivial⟩ ?_
    intro a9 w9 τ9 st9 f9
    replace e0 := f9.old e0 (by kernel_rfl)
    replace e2 := f9.old e2 (by kernel_rfl)
    replace e4 := f9.old e4 (by kernel_rfl)
    replace e10 := f9.old e10 (by kernel_rfl)
    have e11 : get a9 11 = (.int .i64 ((j : Int) - (i : Int))) := f9.v 3 rfl
    replace e20 := f9.old e20 (by kernel_rfl)
    replace e23 := f9.old e23 (by kernel_rfl)
    replace r0 : ownR EditE 42 (swR ys ((m : Int) - (i : Int)).toNat ((m : Int) + (j : Int) - (i : Int)).toNat (i : Int).toNat) (τ9 0) v w9 := f9.iown 0 rfl rfl
    clear f9
    show _
    refine ⟨⟨f - 1, i, j - i, swR ys ((m : Int) - (i : Int)).toNat ((m : Int) + (j : Int) - (i : Int)).toNat (i : Int).toNat, τ9, ?_, ?_, ?_, ?_, ?_, ?_, ?_, st9, (e10.trans (int_eq (by omega))), (e11.trans (int_eq (by omega))), e0, e2, e4, ?_⟩, ?_⟩
    · omega
    · omega
    · omega
    · omega
    · rw [swR_len]; exact q4
    · omega
    · rcases Nat.lt_trichotomy i j with h_ | h_ | h_
      · first | omega | (rw [rotG_lt h_ (by omega)] at q6; simpa only [Int.toNat_natCast, tn, tn2] using q6)
      · omega
      · first | omega | (rw [rotG_gt h_ (by omega)] at q6; simpa only [Int.toNat_natCast, tn, tn2] using q6)
    · exact r0.cast (by rfl)
    · simp only [m10, m11, e10, e11, intOf]; omega
  try simp only [Bool.and_eq_true, Bool.or_eq_true, decide_eq_true_eq, decide_eq_false_iff_not, Bool.not_eq_true', Bool.and_eq_false_iff, Bool.or_eq_false_iff, Bool.not_eq_false', Int.not_lt, Int.not_le, beq_iff_eq, selB] at hc1
  refine wp_exit ?_
  repeat (with_reducible refine then_exit ?_)
  refine exit_here ?_
  show Code.wp _ _ _ a4 w4
  refine region_St (bf := [0, 0, 0, 6, 0, 0, 0, 127]) (sp := [
      (det (fun k => v.ownBlock = some k ∨ w.heap.size ≤ k) 50 v),
        (det (fun k => v.ownBlock = some k ∨ w.heap.size ≤ k) 51 (.int .i64 ((m : Int)))),
        (det (fun k => v.ownBlock = some k ∨ w.heap.size ≤ k) 52 (.int .i64 ((i : Int)))),
        (det (fun k => v.ownBlock = some k ∨ w.heap.size ≤ k) 53 (.int .i64 ((m : Int) - (i : Int)))),
        (det (fun k => v.ownBlock = some k ∨ w.heap.size ≤ k) 54 (.int .i64 ((m : Int)))),
        (det (fun k => v.ownBlock = some k ∨ w.heap.size ≤ k) 55 (.int .i64 ((i : Int)))),
        (det (fun k => v.ownBlock = some k ∨ w.heap.size ≤ k) 56 (.func (.func 40) #[] #[])),
        (own EditE 42 (fun k => v.ownBlock = some k ∨ w.heap.size ≤ k) 0 0 (swR ys ((m : Int) - (i : Int)).toNat (m : Int).toNat (i : Int).toNat))])
    [(iown EditE 42 (fun k => v.ownBlock = some k ∨ w.heap.size ≤ k) v (ys))] mixed st4 (by kernel_rfl) ⟨r0, trivial⟩
    ⟨Ob.det rfl rfl rfl (fun _ a_ _ _ c => r_move rfl (c.eo e0 (by kernel_rfl))),
       Ob.det rfl rfl rfl (fun _ a_ _ _ c => r_move rfl (c.eo e2 (by kernel_rfl))),
       Ob.det rfl rfl rfl (fun _ a_ _ _ c => r_move rfl (c.eo e10 (by kernel_rfl))),
       Ob.det rfl rfl rfl (fun _ a_ _ _ c => r_sub rfl (c.ev 1 rfl rfl) (c.ev 2 rfl rfl) (by omega)),
       Ob.det rfl rfl rfl (fun _ a_ _ _ c => r_move rfl (c.eo e2 (by kernel_rfl))),
       Ob.det rfl rfl rfl (fun _ a_ _ _ c => r_move rfl (c.eo e10 (by kernel_rfl))),
       Ob.det rfl rfl rfl (fun _ a_ _ _ c => r_move rfl (c.eo e4 (by kernel_rfl))),
       Ob.callIn rfl rfl rfl (by decide) (fun _ a_ _ _ c => ⟨_, _, (e_call5 rfl rfl Try.call49 (c.ev 0 rfl rfl) (c.ev 3 rfl rfl) (c.ev 4 rfl rfl) (c.ev 5 rfl rfl) (c.ev 6 rfl rfl)), c.old e0 (by kernel_rfl), c.iown 0 rfl rfl (by kernel_rfl), fun ho_ => editSwap_c v ys ((m : Int) - (i : Int)) (m : Int) (i : Int) _ ho_ (by omega) (by omega) (by omega) (by omega) (by omega)⟩),
     trivial⟩ ?_
  intro a10 w10 τ10 st10 f10
  replace e0 := f10.old e0 (by kernel_rfl)
  have r0 : ownR EditE 42 (swR ys ((m : Int) - (i : Int)).toNat (m : Int).toNat (i : Int).toNat) (τ10 0) v w10 := f10.rown 7 rfl rfl e0
  clear f10
  refine end0 (fn := Try.f48) rfl st10.defers ?_
  obtain rfl : i = j := by omega
  rw [rotG_same] at q6
  have e_ : swR ys ((m : Int) - (i : Int)).toNat (m : Int).toNat (i : Int).toNat = rotF xs a m b := by rw [← q6]; congr 1 <;> omega
  exact ⟨rfl, e_ ▸ r0.1, st10.extIn⟩

theorem editRot_c (v : Value) (xs : List (Int × Int × ByteArray)) (a m b : Int) (w : World) (ho : OwnT EditE 42 w v xs) (ha : 0 ≤ a) (h1 : a < m) (h2 : m < b) (h3 : b ≤ xs.length) : Calls Try.prog 48 #[v, .int .i64 a, .int .i64 m, .int .i64 b, (.func (.func 40) #[] #[])] w (fun e w' => e = .returned (.tuple #[]) ∧ OwnT EditE 42 w' v (rotF xs a.toNat m.toNat b.toNat) ∧ Ext (fun k => v.ownBlock = some k) w w') := by
  obtain ⟨a, rfl⟩ := Int.eq_ofNat_of_zero_le ha
  obtain ⟨m, rfl⟩ := Int.eq_ofNat_of_zero_le (show 0 ≤ m by omega)
  obtain ⟨b, rfl⟩ := Int.eq_ofNat_of_zero_le (show 0 ≤ b by omega)
  exact editRot_n v xs a m b w ho (by omega) (by omega) (by omega)
end B
end Go.Proofs.Ytjapbdofhbfmfaa
