/-
  Walks, printed by a program (gen.py): ChC.
-/
import Derived.Test.YtfkjmkngiiokmaaChB
set_option linter.unusedSimpArgs false
set_option linter.unusedVariables false
namespace Go.Proofs.Ytfkjmkngiiokmaa
namespace B
open Go.RowKit
open Srt
set_option maxRecDepth 100000 in
theorem reverse_c (v : Value) (xs : List (Int × Int × ByteArray)) (w : World) (ho : OwnT EditE 45 w v xs) (hbig : xs.length ≤ 1000000000000) : Calls Try.prog 43 #[v] w (fun e w' => e = .returned (.tuple #[]) ∧ OwnT EditE 45 w' v (xs.reverse) ∧ Ext (fun k => v.ownBlock = some k) w w') := by
 refine enterIn (fun g => v.ownBlock = some g) (fun g hg => ho.lt g hg) (n := 28) Try.func43 rfl rfl (Nat.le_of_ble_eq_true rfl) ?_
 intro a0 τ0 ha hτ st0
 have e0 : get a0 0 = v := ha 0 _ rfl
 clear ha
 have r0 : ownR EditE 45 xs (τ0 0) v w := ⟨ho, fun g hg => by rw [hτ]; exact hg⟩
 have hle := r0.le
 refine wp_seq ?_
 refine region_St (bf := [0, 1, 3, 0, 15]) (sp := [det _ 4 _, det _ 5 _, det _ 6 _, det _ 2 _, det _ 3 _]) [io r0] mixed st0 (by kernel_rfl) ⟨r0, trivial⟩
  ⟨Ob.d fun c => r_move rfl (c.p e0),
  Ob.d fun c => r_len rfl Try.underlying22 (c.n 0 rfl) r0.isSl,
  Ob.d fun c => r_sub rfl (c.n 1 rfl) rfl (by omega),
  Ob.d fun c => r_assign rfl rfl,
  Ob.d fun c => r_assign rfl (c.n 2 rfl), trivial⟩ ?_
 intro a1 w1 τ1 st1 f1
 obtain ⟨e0, -⟩ := f1.ks [(0, _)] ⟨e0, trivial⟩
 have e2 : get a1 2 = (.int .i64 (0)) := f1.v 3 rfl
 have e3 : get a1 3 = (.int .i64 ((xs.length : Int) - 1)) := f1.v 4 rfl
 replace r0 := f1.io 0 rfl
 clear f1
 show Code.wp _ _ _ a1 w1
 refine wp_block ?_
 refine wp_loop (fun a_ w_ => ∃ (n : Nat) (τ : Nat → Foot), (2 * n ≤ xs.length) ∧
      St (fun k => v.ownBlock = some k ∨ w.heap.size ≤ k) w 28 a_ w_ τ ∧
      get a_ 2 = (.int .i64 ((n : Int))) ∧
      get a_ 3 = (.int .i64 ((xs.length : Int) - 1 - (n : Int))) ∧
      get a_ 0 = v ∧
      ownR EditE 45 (revS xs n) (τ 0) v w_) (fun a_ _ => xs.length - (intOf (get a_ 2)).toNat) ?_ ?_
 · refine ⟨0, τ1, ?_, st1, (e2.trans (int_eq (by omega))), (e3.trans (int_eq (by omega))), e0, ?_⟩
   · omega
   · exact r0.cast (by rfl)
 intro a2 w2 hI
 obtain ⟨n, τ2, q0, st2, e2, e3, e0, r0⟩ := hI
 have hl := revS_len xs n
 have m2 := e2
 refine wp_seq ?_
 refine wp_seq ?_
 refine region_St (bf := [0, 0, 3]) (sp := [det _ 7 _, det _ 8 _, det _ 9 _]) [io r0] mixed st2 (by kernel_rfl) ⟨r0, trivial⟩
  ⟨Ob.d fun c => r_move rfl (c.p e2),
  Ob.d fun c => r_move rfl (c.p e3),
  Ob.d fun c => r_lss rfl (c.n 0 rfl) (c.n 1 rfl), trivial⟩ ?_
 intro a3 w3 τ3 st3 f3
 obtain ⟨e0, e2, e3, -⟩ := f3.ks [(0, _), (2, _), (3, _)] ⟨e0, e2, e3, trivial⟩
 have e9 : get a3 9 = (.bool (decide ((n : Int) < (xs.length : Int) - 1 - (n : Int)))) := f3.v 2 rfl
 replace r0 := f3.io 0 rfl
 clear f3
 show Code.wp _ _ _ a3 w3
 refine wp_cond_split (t := decide ((n : Int) < (xs.length : Int) - 1 - (n : Int))) e9 (fun hc1 => ?_) (fun hc1 => ?_)
 · try simp only [decide_eq_true_eq] at hc1
   refine wp_skip ?_
   show Code.wp _ _ _ a3 w3
   refine wp_seq ?_
   refine wp_block ?_
   refine region_St (bf := [0, 0, 0, 0, 0, 0, 48, 112, 0, 0, 768, 1792, 4083, 8179, 16383, 32767]) (sp := [det _ 14 _, det _ 15 _, det _ 16 _, det _ 17 _, det _ 18 _, det _ 19 _, det _ 20 _, det _ 21 _, det _ 22 _, det _ 23 _, det _ 24 _, det _ 25 _, det _ 26 _, own _ _ _ 0 0 _, det _ 27 _, own _ _ _ 0 0 _]) [io r0] mixed st3 (by kernel_rfl) ⟨r0, trivial⟩
    ⟨Ob.d fun c => r_move rfl (c.p e0),
    Ob.d fun c => r_move rfl (c.p e2),
    Ob.d fun c => r_move rfl (c.p e0),
    Ob.d fun c => r_move rfl (c.p e3),
    Ob.d fun c => r_move rfl (c.p e0),
    Ob.d fun c => r_move rfl (c.p e3),
    Ob.d fun c => r_indexAddr rfl Try.underlying22 Try.sizeOf45 (c.n 4 rfl) r0.isSl (c.n 5 rfl) (by omega) (by omega),
    Ob.d fun c => r_loadN (vs := [(.int .i64 ((nth (revS xs n) ((xs.length : Int) - 1 - (n : Int))).1)), (.int .i64 ((nth (revS xs n) ((xs.length : Int) - 1 - (n : Int))).2.1)), (.string ((nth (revS xs n) ((xs.length : Int) - 1 - (n : Int))).2.2))]) rfl Try.isAgg45 Try.sizeOf45 (c.n 6 rfl) rfl (fun _ _ hj => ((c.io 0 rfl).1.sl).elem (nth_some (i := (xs.length : Int) - 1 - (n : Int)) (by omega) (by omega)) hj),
    Ob.d fun c => r_move rfl (c.p e0),
    Ob.d fun c => r_move rfl (c.p e2),
    Ob.d fun c => r_indexAddr rfl Try.underlying22 Try.sizeOf45 (c.n 8 rfl) r0.isSl (c.n 9 rfl) (by omega) (by omega),
    Ob.d fun c => r_loadN (vs := [(.int .i64 ((nth (revS xs n) ((n : Int))).1)), (.int .i64 ((nth (revS xs n) ((n : Int))).2.1)), (.string ((nth (revS xs n) ((n : Int))).2.2))]) rfl Try.isAgg45 Try.sizeOf45 (c.n 10 rfl) rfl (fun _ _ hj => ((c.io 0 rfl).1.sl).elem (nth_some (i := (n : Int)) (by omega) (by omega)) hj),
    Ob.d fun c => r_indexAddr rfl Try.underlying22 Try.sizeOf45 (c.n 0 rfl) r0.isSl (c.n 1 rfl) (by omega) (by omega),
    Ob.storeElem (E := EditE) (i := ((n : Int)).toNat) (off := 0) (u := (.agg #[(.int .i64 ((nth (revS xs n) ((xs.length : Int) - 1 - (n : Int))).1)), (.int .i64 ((nth (revS xs n) ((xs.length : Int) - 1 - (n : Int))).2.1)), (.string ((nth (revS xs n) ((xs.length : Int) - 1 - (n : Int))).2.2))])) (x := nth (revS xs n) ((n : Int))) (x' := (nth (revS xs n) ((xs.length : Int) - 1 - (n : Int)))) rfl rfl rfl rfl Try.sizeOf45 (nth_some (by omega) (by (try simp only [List.length_set]); omega)) (Nat.le_of_ble_eq_true rfl) (by simp [Value.cells, Value.oneCell']) rfl (fun _ a_ _ _ c => ⟨c.ip 0 rfl e0, c.ad (c.n 12 rfl) e0 rfl, (c.n 7 rfl)⟩),
    Ob.d fun c => r_indexAddr rfl Try.underlying22 Try.sizeOf45 (c.n 2 rfl) r0.isSl (c.n 3 rfl) (by omega) (by omega),
    Ob.storeElem (E := EditE) (i := ((xs.length : Int) - 1 - (n : Int)).toNat) (off := 0) (u := (.agg #[(.int .i64 ((nth (revS xs n) ((n : Int))).1)), (.int .i64 ((nth (revS xs n) ((n : Int))).2.1)), (.string ((nth (revS xs n) ((n : Int))).2.2))])) (x := nth ((revS xs n).set ((n : Int)).toNat (nth (revS xs n) ((xs.length : Int) - 1 - (n : Int)))) ((xs.length : Int) - 1 - (n : Int))) (x' := (nth (revS xs n) ((n : Int)))) rfl rfl rfl rfl Try.sizeOf45 (nth_some (by omega) (by (try simp only [List.length_set]); omega)) (Nat.le_of_ble_eq_true rfl) (by simp [Value.cells, Value.oneCell']) rfl (fun _ a_ _ _ c => ⟨c.ro 13 rfl, c.ad (c.n 14 rfl) e0 rfl, (c.n 11 rfl)⟩), trivial⟩ ?_
   intro a4 w4 τ4 st4 f4
   obtain ⟨e0, e2, e3, e9, -⟩ := f4.ks [(0, _), (2, _), (3, _), (9, _)] ⟨e0, e2, e3, e9, trivial⟩
   replace r0 : ownR EditE 45 (((revS xs n).set ((n : Int)).toNat (nth (revS xs n) ((xs.length : Int) - 1 - (n : Int)))).set ((xs.length : Int) - 1 - (n : Int)).toNat (nth (revS xs n) ((n : Int)))) (τ4 0) v w4 := f4.ro 15 e0 rfl
   clear f4
   show _
   show Code.wp _ _ _ a4 w4
   refine region_St (bf := [0, 1, 0, 4, 3, 31]) (sp := [det _ 10 _, det _ 11 _, det _ 12 _, det _ 13 _, det _ 2 _, det _ 3 _]) [io r0] mixed st4 (by kernel_rfl) ⟨r0, trivial⟩
    ⟨Ob.d fun c => r_move rfl (c.p e2),
    Ob.d fun c => r_add rfl (c.n 0 rfl) rfl (by omega),
    Ob.d fun c => r_move rfl (c.p e3),
    Ob.d fun c => r_sub rfl (c.n 2 rfl) rfl (by omega),
    Ob.d fun c => r_assign rfl (c.n 1 rfl),
    Ob.d fun c => r_assign rfl (c.n 3 rfl), trivial⟩ ?_
   intro a5 w5 τ5 st5 f5
   obtain ⟨e0, e9, -⟩ := f5.ks [(0, _), (9, _)] ⟨e0, e9, trivial⟩
   have e2 : get a5 2 = (.int .i64 ((n : Int) + 1)) := f5.v 4 rfl
   have e3 : get a5 3 = (.int .i64 ((xs.length : Int) - 1 - (n : Int) - 1)) := f5.v 5 rfl
   replace r0 := f5.io 0 rfl
   clear f5
   refine ⟨⟨n + 1, τ5, ?_, st5, (e2.trans (int_eq (by omega))), (e3.trans (int_eq (by omega))), e0, ?_⟩, ?_⟩
   · omega
   · exact r0.cast (by rfl)
   · simp only [m2, e2, intOf]; omega
 try simp only [decide_eq_false_iff_not, Int.not_lt] at hc1
 refine wp_exit ?_
 repeat (with_reducible refine then_exit ?_)
 refine exit_here ?_
 refine end0 (fn := Try.f43) rfl st3.defers ?_
 rw [revS_all (by omega) (by omega)] at r0
 exact ⟨rfl, r0.1, st3.extIn⟩

set_option maxRecDepth 100000 in
theorem moveE_c (n : Int) (r : Bool) (v : Value) (xs : List (Int × Int × ByteArray)) (w : World) (hS : SlT EditE w v xs) (hbig : xs.length ≤ 1000000000) : Calls Try.prog 27 #[(.int .i64 (n)), (.bool (r)), v] w (fun e w' => e = .returned (.int .i64 (moveW n r xs)) ∧ Ext none' w w') := by
 refine enter (n := 55) Try.func27 rfl rfl (Nat.le_of_ble_eq_true rfl) ?_
 intro a0 τ0 ha st0
 have e0 : get a0 0 = (.int .i64 (n)) := ha 0 _ rfl
 have e1 : get a0 1 = (.bool (r)) := ha 1 _ rfl
 have e2 : get a0 2 = v := ha 2 _ rfl
 clear ha
 have hle := hS.le
 have hil := isort_length (lt := ltE) xs
 refine wp_seq ?_
 refine region_St (bf := [0]) (sp := [det _ 6 _]) [] mixed st0 (by kernel_rfl) trivial
  ⟨Ob.d fun c => r_assign rfl rfl, trivial⟩ ?_
 intro a1 w1 τ1 st1 f1
 obtain ⟨e0, e1, e2, -⟩ := f1.ks [(0, _), (1, _), (2, _)] ⟨e0, e1, e2, trivial⟩
 have e6 : get a1 6 = (.int .i64 (0)) := f1.v 0 rfl
 clear f1
 show Code.wp _ _ _ a1 w1
 refine wp_seq ?_
 refine region_St (bf := [0, 1, 3]) (sp := [det _ 10 _, own _ _ _ 1 11 _, own _ _ _ 1 7 _]) [] mixed st1 (by kernel_rfl) trivial
  ⟨Ob.d fun c => r_move rfl (c.p e2),
  Ob.callOwn rfl rfl rfl (fun _ a_ _ _ c => ⟨_, _, (e_call1 rfl rfl Try.call22 (c.n 0 rfl)), sortE_c v xs _ (hS.at (st1.ext.trans c.J.ext)) (by first | omega | (simp only [List.length_reverse] at *; omega) | (rw [hil]; omega))⟩),
  Ob.moveT (t0 := 11) rfl rfl rfl rfl rfl (.inr rfl) (fun _ _ _ _ c => ⟨c.ro 1 rfl, rfl⟩), trivial⟩ ?_
 intro a2 w2 τ2 st2 f2
 obtain ⟨b2x7, e7⟩ : ∃ b, get a2 7 = b := ⟨_, rfl⟩
 obtain ⟨e0, e1, e6, -⟩ := f2.ks [(0, _), (1, _), (6, _)] ⟨e0, e1, e6, trivial⟩
 have r1 : ownR EditE 45 (isort ltE xs) (τ2 1) b2x7 w2 := f2.ro 2 e7 rfl
 clear f2
 show Code.wp _ _ _ a2 w2
 refine wp_seq ?_
 refine region_St (bf := [0, 1]) (sp := [det _ 12 _, own _ _ _ 1 7 _]) [Ini.any _, io r1] mixed st2 (by kernel_rfl) ⟨trivial, r1, trivial⟩
  ⟨Ob.d fun c => r_move rfl (c.p e7),
  Ob.callIn rfl rfl rfl (by decide) (fun _ a_ _ _ c => ⟨_, _, (e_call1 rfl rfl Try.call43 (c.n 0 rfl)), c.p e7, c.io 1 rfl, fun ho_ => reverse_c b2x7 (isort ltE xs) _ ho_ (by first | omega | (simp only [List.length_reverse] at *; omega) | (rw [hil]; omega))⟩), trivial⟩ ?_
 intro a3 w3 τ3 st3 f3
 obtain ⟨e0, e1, e6, e7, -⟩ := f3.ks [(0, _), (1, _), (6, _), (7, _)] ⟨e0, e1, e6, e7, trivial⟩
 replace r1 : ownR EditE 45 ((isort ltE xs).reverse) (τ3 1) b2x7 w3 := f3.ro 1 e7 rfl
 clear f3
 show Code.wp _ _ _ a3 w3
 refine wp_seq ?_
 refine wp_seq ?_
 refine region_St (bf := [0, 1, 0]) (sp := [det _ 14 _, det _ 15 _, det _ 16 _]) [Ini.any _, io r1] mixed st3 (by kernel_rfl) ⟨trivial, r1, trivial⟩
  ⟨Ob.d fun c => r_move rfl (c.p e7),
  Ob.d fun c => r_len rfl Try.underlying22 (c.n 0 rfl) r1.isSl,
  Ob.d fun c => r_move rfl rfl, trivial⟩ ?_
 intro a4 w4 τ4 st4 f4
 obtain ⟨e0, e1, e6, -⟩ := f4.ks [(0, _), (1, _), (6, _)] ⟨e0, e1, e6, trivial⟩
 have e14 : get a4 14 = b2x7 := f4.v 0 rfl
 have e15 : get a4 15 = (.int .i64 ((((isort ltE xs).reverse).length : Int))) := f4.v 1 rfl
 have e16 : get a4 16 = (.int .i64 (0)) := f4.v 2 rfl
 replace r1 := f4.io 1 rfl
 clear f4
 show Code.wp _ _ _ a4 w4
 refine wp_block ?_
 refine wp_loop (fun a_ w_ => ∃ (k : Nat) (τ : Nat → Foot), (k ≤ xs.length) ∧
      St (Nw w) w 55 a_ w_ τ ∧
      get a_ 0 = (.int .i64 (foldM n r ((isort ltE xs).reverse.take k))) ∧
      get a_ 16 = (.int .i64 ((k : Int))) ∧
      get a_ 1 = (.bool (r)) ∧
      get a_ 6 = (.int .i64 (0)) ∧
      get a_ 14 = b2x7 ∧
      get a_ 15 = (.int .i64 ((((isort ltE xs).reverse).length : Int))) ∧
      ownR EditE 45 ((isort ltE xs).reverse) (τ 1) b2x7 w_) (fun a_ _ => xs.length - (intOf (get a_ 16)).toNat) ?_ ?_
 · refine ⟨0, τ4, ?_, st4, (e0.trans (int_eq (by first | omega | rfl | exact foldM_lt (by omega) (by assumption) | exact foldM_gt (by omega) (by assumption) (by assumption) | exact foldM_in (by omega) (by assumption) (by assumption) (by assumption) | exact foldM_at (by omega) (by assumption) (by assumption) (by assumption)))), (e16.trans (int_eq (by first | omega | rfl | exact foldM_lt (by omega) (by assumption) | exact foldM_gt (by omega) (by assumption) (by assumption) | exact foldM_in (by omega) (by assumption) (by assumption) (by assumption) | exact foldM_at (by omega) (by assumption) (by assumption) (by assumption)))), e1, e6, e14, e15, r1⟩
   · omega
 intro a5 w5 hI
 obtain ⟨k, τ5, q0, st5, e0, e16, e1, e6, e14, e15, r1⟩ := hI
 have hrl := @List.length_reverse _ (isort ltE xs)
 have m16 := e16
 refine wp_seq ?_
 refine region_St (bf := [0]) (sp := [det _ 17 _]) [Ini.any _, io r1] mixed st5 (by kernel_rfl) ⟨trivial, r1, trivial⟩
  ⟨Ob.d fun c => r_lss rfl (c.p e16) (c.p e15), trivial⟩ ?_
 intro a6 w6 τ6 st6 f6
 obtain ⟨e0, e1, e6, e14, e15, e16, -⟩ := f6.ks [(0, _), (1, _), (6, _), (14, _), (15, _), (16, _)] ⟨e0, e1, e6, e14, e15, e16, trivial⟩
 have e17 : get a6 17 = (.bool (decide ((k : Int) < (((isort ltE xs).reverse).length : Int)))) := f6.v 0 rfl
 replace r1 := f6.io 1 rfl
 clear f6
 show Code.wp _ _ _ a6 w6
 refine wp_seq ?_
 refine wp_cond_split (t := decide ((k : Int) < (((isort ltE xs).reverse).length : Int))) e17 (fun hc1 => ?_) (fun hc1 => ?_)
 · try simp only [decide_eq_true_eq] at hc1
   refine wp_skip ?_
   show Code.wp _ _ _ a6 w6
   refine wp_seq ?_
   refine wp_block ?_
   refine wp_seq ?_
   refine region_St (bf := [0, 1, 0, 7]) (sp := [det _ 18 _, det _ 19 _, box _ _ 2 9 [(.int .i64 (0)), (.int .i64 (0)), (.string ((⟨#[]⟩ : ByteArray)))], box _ _ 2 9 [(.int .i64 ((nth ((isort ltE xs).reverse) ((k : Int))).1)), (.int .i64 ((nth ((isort ltE xs).reverse) ((k : Int))).2.1)), (.string ((nth ((isort ltE xs).reverse) ((k : Int))).2.2))]]) [Ini.any _, io r1] mixed st6 (by kernel_rfl) ⟨trivial, r1, trivial⟩
    ⟨Ob.d fun c => r_indexAddr rfl Try.underlying22 Try.sizeOf45 (c.p e14) r1.isSl (c.p e16) (by first | omega | (simp only [List.length_reverse] at *; omega) | (rw [hil]; omega)) (by first | omega | (simp only [List.length_reverse] at *; omega) | (rw [hil]; omega)),
    Ob.d fun c => r_loadN (vs := [(.int .i64 ((nth ((isort ltE xs).reverse) ((k : Int))).1)), (.int .i64 ((nth ((isort ltE xs).reverse) ((k : Int))).2.1)), (.string ((nth ((isort ltE xs).reverse) ((k : Int))).2.2))]) rfl Try.isAgg45 Try.sizeOf45 (c.n 0 rfl) rfl (fun _ _ hj => ((c.io 1 rfl).1.sl).elem (nth_some (i := (k : Int)) (by first | omega | (simp only [List.length_reverse] at *; omega) | (rw [hil]; omega)) (by first | omega | (simp only [List.length_reverse] at *; omega) | (rw [hil]; omega))) hj),
    Ob.alloc rfl rfl rfl rfl Try.zeroValue45 rfl,
    Ob.storeBox (off := 0) (v := (.agg #[(.int .i64 ((nth ((isort ltE xs).reverse) ((k : Int))).1)), (.int .i64 ((nth ((isort ltE xs).reverse) ((k : Int))).2.1)), (.string ((nth ((isort ltE xs).reverse) ((k : Int))).2.2))])) rfl rfl rfl rfl Try.sizeOf45 (Nat.le_of_ble_eq_true rfl) (by simp [Value.cells, Value.oneCell']) rfl (fun _ _ _ _ c => ⟨c.rb 2 rfl, (c.rb 2 rfl).ptr, (c.n 1 rfl)⟩), trivial⟩ ?_
   intro a7 w7 τ7 st7 f7
   obtain ⟨b7x9, e9⟩ : ∃ b, get a7 9 = b := ⟨_, rfl⟩
   obtain ⟨e0, e1, e6, e14, e15, e16, e17, -⟩ := f7.ks [(0, _), (1, _), (6, _), (14, _), (15, _), (16, _), (17, _)] ⟨e0, e1, e6, e14, e15, e16, e17, trivial⟩
   replace r1 := f7.io 1 rfl
   have r2 : boxR 45 [(.int .i64 ((nth ((isort ltE xs).reverse) ((k : Int))).1)), (.int .i64 ((nth ((isort ltE xs).reverse) ((k : Int))).2.1)), (.string ((nth ((isort ltE xs).reverse) ((k : Int))).2.2))] (τ7 2) b7x9 w7 := f7.rb 3 e9 rfl
   clear f7
   show Code.wp _ _ _ a7 w7
   refine wp_block ?_
   refine wp_seq ?_
   refine region_St (bf := [0, 0, 2, 6, 15, 31]) (sp := [det _ 24 _, det _ 25 _, det _ 26 _, det _ 27 _, det _ 28 _, det _ 23 _]) [Ini.any _, io r1, ib r2] mixed st7 (by kernel_rfl) ⟨trivial, r1, r2, trivial⟩
    ⟨Ob.d fun c => r_move rfl (c.p e0),
    Ob.d fun c => r_fieldAddr rfl Try.underlying45 rfl rfl Try.sizeOf43 ((c.p e9).trans r2.ptr),
    Ob.d fun c => r_fieldAddr rfl Try.underlying43 rfl rfl Try.sizeOf3 (c.n 1 rfl),
    Ob.d fun c => r_load1 rfl Try.isAgg3 (c.n 2 rfl) (by rw [add_add]; exact (c.ib 2 rfl).cell (j := 0) rfl),
    Ob.d fun c => r_lss rfl (c.n 0 rfl) (c.n 3 rfl),
    Ob.d fun c => r_assign rfl (c.n 4 rfl), trivial⟩ ?_
   intro a8 w8 τ8 st8 f8
   obtain ⟨e0, e1, e6, e9, e14, e15, e16, e17, -⟩ := f8.ks [(0, _), (1, _), (6, _), (9, _), (14, _), (15, _), (16, _), (17, _)] ⟨e0, e1, e6, e9, e14, e15, e16, e17, trivial⟩
   have e23 : get a8 23 = (.bool (decide (foldM n r ((isort ltE xs).reverse.take k) < (nth ((isort ltE xs).reverse) ((k : Int))).1))) := f8.v 5 rfl
   replace r1 := f8.io 1 rfl
   replace r2 := f8.ib 2 rfl
   clear f8
   show Code.wp _ _ _ a8 w8
   refine wp_cond_split (t := decide (foldM n r ((isort ltE xs).reverse.take k) < (nth ((isort ltE xs).reverse) ((k : Int))).1)) e23 (fun hc2 => ?_) (fun hc2 => ?_)
   · try simp only [decide_eq_true_eq] at hc2
     refine wp_skip ?_
     show _
     show _
     show Code.wp _ _ _ a8 w8
     refine region_St (bf := [0, 1]) (sp := [det _ 53 _, det _ 16 _]) [Ini.any _, io r1, ib r2] mixed st8 (by kernel_rfl) ⟨trivial, r1, r2, trivial⟩
      ⟨Ob.d fun c => r_add rfl (c.p e16) rfl (by first | omega | (simp only [List.length_reverse] at *; omega) | (rw [hil]; omega)),
      Ob.d fun c => r_move rfl (c.n 0 rfl), trivial⟩ ?_
     intro a9 w9 τ9 st9 f9
     obtain ⟨e0, e1, e6, e9, e14, e15, e17, e23, -⟩ := f9.ks [(0, _), (1, _), (6, _), (9, _), (14, _), (15, _), (17, _), (23, _)] ⟨e0, e1, e6, e9, e14, e15, e17, e23, trivial⟩
     have e16 : get a9 16 = (.int .i64 ((k : Int) + 1)) := f9.v 1 rfl
     replace r1 := f9.io 1 rfl
     replace r2 := f9.ib 2 rfl
     clear f9
     refine ⟨⟨k + 1, τ9, ?_, st9, (e0.trans (int_eq (by first | omega | rfl | exact foldM_lt (by omega) (by assumption) | exact foldM_gt (by omega) (by assumption) (by assumption) | exact foldM_in (by omega) (by assumption) (by assumption) (by assumption) | exact foldM_at (by omega) (by assumption) (by assumption) (by assumption)))), (e16.trans (int_eq (by first | omega | rfl | exact foldM_lt (by omega) (by assumption) | exact foldM_gt (by omega) (by assumption) (by assumption) | exact foldM_in (by omega) (by assumption) (by assumption) (by assumption) | exact foldM_at (by omega) (by assumption) (by assumption) (by assumption)))), e1, e6, e14, e15, r1⟩, ?_⟩
     · omega
     · simp only [m16, e16, intOf]; omega
   try simp only [decide_eq_false_iff_not, Int.not_lt] at hc2
   refine wp_seq ?_
   refine region_St (bf := [0, 0, 2, 6, 15, 31]) (sp := [det _ 30 _, det _ 31 _, det _ 32 _, det _ 33 _, det _ 34 _, det _ 29 _]) [Ini.any _, io r1, ib r2] mixed st8 (by kernel_rfl) ⟨trivial, r1, r2, trivial⟩
    ⟨Ob.d fun c => r_move rfl (c.p e0),
    Ob.d fun c => r_fieldAddr rfl Try.underlying45 rfl rfl Try.sizeOf43 ((c.p e9).trans r2.ptr),
    Ob.d fun c => r_fieldAddr rfl Try.underlying43 rfl rfl Try.sizeOf3 (c.n 1 rfl),
    Ob.d fun c => r_load1 rfl Try.isAgg3 (c.n 2 rfl) (by rw [add_add]; exact (c.ib 2 rfl).cell (j := 1) rfl),
    Ob.d fun c => r_gtr rfl (c.n 0 rfl) (c.n 3 rfl),
    Ob.d fun c => r_assign rfl (c.n 4 rfl), trivial⟩ ?_
   intro a10 w10 τ10 st10 f10
   obtain ⟨e0, e1, e6, e9, e14, e15, e16, e17, e23, -⟩ := f10.ks [(0, _), (1, _), (6, _), (9, _), (14, _), (15, _), (16, _), (17, _), (23, _)] ⟨e0, e1, e6, e9, e14, e15, e16, e17, e23, trivial⟩
   have e29 : get a10 29 = (.bool (decide ((nth ((isort ltE xs).reverse) ((k : Int))).2.1 < foldM n r ((isort ltE xs).reverse.take k)))) := f10.v 5 rfl
   replace r1 := f10.io 1 rfl
   replace r2 := f10.ib 2 rfl
   clear f10
   show Code.wp _ _ _ a10 w10
   refine wp_cond_split (t := decide ((nth ((isort ltE xs).reverse) ((k : Int))).2.1 < foldM n r ((isort ltE xs).reverse.take k))) e29 (fun hc3 => ?_) (fun hc3 => ?_)
   · try simp only [decide_eq_true_eq] at hc3
     refine region_St (bf := [0, 0, 2, 6, 0, 16, 48, 126, 255, 511]) (sp := [det _ 35 _, det _ 36 _, det _ 37 _, det _ 38 _, det _ 39 _, det _ 40 _, det _ 41 _, det _ 42 _, det _ 43 _, det _ 0 _]) [Ini.any _, io r1, ib r2] mixed st10 (by kernel_rfl) ⟨trivial, r1, r2, trivial⟩
      ⟨Ob.d fun c => r_move rfl (c.p e0),
      Ob.d fun c => r_fieldAddr rfl Try.underlying45 rfl rfl Try.sizeOf9 ((c.p e9).trans r2.ptr),
      Ob.d fun c => r_load1 rfl Try.isAgg9 (c.n 1 rfl) ((c.ib 2 rfl).cell (j := 2) rfl),
      Ob.d fun c => r_lenS rfl Try.underlying9 (c.n 2 rfl),
      Ob.d fun c => r_fieldAddr rfl Try.underlying45 rfl rfl Try.sizeOf43 ((c.p e9).trans r2.ptr),
      Ob.d fun c => r_loadN (vs := [(.int .i64 ((nth ((isort ltE xs).reverse) ((k : Int))).1)), (.int .i64 ((nth ((isort ltE xs).reverse) ((k : Int))).2.1))]) rfl Try.isAgg43 Try.sizeOf43 (c.n 4 rfl) rfl (fun j_ _ hj => by rw [add_add]; exact (c.ib 2 rfl).cell (j := 0 + j_) (part_cells (l := [(.int .i64 ((nth ((isort ltE xs).reverse) ((k : Int))).1)), (.int .i64 ((nth ((isort ltE xs).reverse) ((k : Int))).2.1)), (.string ((nth ((isort ltE xs).reverse) ((k : Int))).2.2))]) (o := 0) (n := 2) rfl hj)),
      Ob.c fun c => ⟨_, _, (e_call1 rfl rfl Try.call30 (c.n 5 rfl)), len_c ((nth ((isort ltE xs).reverse) ((k : Int))).1, (nth ((isort ltE xs).reverse) ((k : Int))).2.1) _⟩,
      Ob.d fun c => r_subW rfl (c.n 3 rfl) (c.n 6 rfl),
      Ob.d fun c => r_addW rfl (c.n 0 rfl) (c.n 7 rfl),
      Ob.d fun c => r_assign rfl (c.n 8 rfl), trivial⟩ ?_
     intro a11 w11 τ11 st11 f11
     obtain ⟨e1, e6, e9, e14, e15, e16, e17, e23, e29, -⟩ := f11.ks [(1, _), (6, _), (9, _), (14, _), (15, _), (16, _), (17, _), (23, _), (29, _)] ⟨e1, e6, e9, e14, e15, e16, e17, e23, e29, trivial⟩
     have e0 : get a11 0 = (.int .i64 (IntKind.i64.wrap (foldM n r ((isort ltE xs).reverse.take k) + (IntKind.i64.wrap ((((nth ((isort ltE xs).reverse) ((k : Int))).2.2).size : Int) - (lenW ((nth ((isort ltE xs).reverse) ((k : Int))).1, (nth ((isort ltE xs).reverse) ((k : Int))).2.1))))))) := f11.v 9 rfl
     replace r1 := f11.io 1 rfl
     replace r2 := f11.ib 2 rfl
     clear f11
     show _
     show _
     show Code.wp _ _ _ a11 w11
     refine region_St (bf := [0, 1]) (sp := [det _ 53 _, det _ 16 _]) [Ini.any _, io r1, ib r2] mixed st11 (by kernel_rfl) ⟨trivial, r1, r2, trivial⟩
      ⟨Ob.d fun c => r_add rfl (c.p e16) rfl (by first | omega | (simp only [List.length_reverse] at *; omega) | (rw [hil]; omega)),
      Ob.d fun c => r_move rfl (c.n 0 rfl), trivial⟩ ?_
     intro a12 w12 τ12 st12 f12
     obtain ⟨e0, e1, e6, e9, e14, e15, e17, e23, e29, -⟩ := f12.ks [(0, _), (1, _), (6, _), (9, _), (14, _), (15, _), (17, _), (23, _), (29, _)] ⟨e0, e1, e6, e9, e14, e15, e17, e23, e29, trivial⟩
     have e16 : get a12 16 = (.int .i64 ((k : Int) + 1)) := f12.v 1 rfl
     replace r1 := f12.io 1 rfl
     replace r2 := f12.ib 2 rfl
     clear f12
     refine ⟨⟨k + 1, τ12, ?_, st12, (e0.trans (int_eq (by first | omega | rfl | exact foldM_lt (by omega) (by assumption) | exact foldM_gt (by omega) (by assumption) (by assumption) | exact foldM_in (by omega) (by assumption) (by assumption) (by assumption) | exact foldM_at (by omega) (by assumption) (by assumption) (by assumption)))), (e16.trans (int_eq (by first | omega | rfl | exact foldM_lt (by omega) (by assumption) | exact foldM_gt (by omega) (by assumption) (by assumption) | exact foldM_in (by omega) (by assumption) (by assumption) (by assumption) | exact foldM_at (by omega) (by assumption) (by assumption) (by assumption)))), e1, e6, e14, e15, r1⟩, ?_⟩
     · omega
     · simp only [m16, e16, intOf]; omega
   try simp only [decide_eq_false_iff_not, Int.not_lt] at hc3
   refine wp_seq ?_
   refine region_St (bf := [0, 1]) (sp := [det _ 45 _, det _ 44 _]) [Ini.any _, io r1, ib r2] mixed st10 (by kernel_rfl) ⟨trivial, r1, r2, trivial⟩
    ⟨Ob.d fun c => r_move rfl (c.p e1),
    Ob.d fun c => r_assign rfl (c.n 0 rfl), trivial⟩ ?_
   intro a13 w13 τ13 st13 f13
   obtain ⟨e0, e1, e6, e9, e14, e15, e16, e17, e23, e29, -⟩ := f13.ks [(0, _), (1, _), (6, _), (9, _), (14, _), (15, _), (16, _), (17, _), (23, _), (29, _)] ⟨e0, e1, e6, e9, e14, e15, e16, e17, e23, e29, trivial⟩
   have e44 : get a13 44 = (.bool (r)) := f13.v 1 rfl
   replace r1 := f13.io 1 rfl
   replace r2 := f13.ib 2 rfl
   clear f13
   show Code.wp _ _ _ a13 w13
   refine wp_cond_split (t := r) e44 (fun hc4 => ?_) (fun hc4 => ?_)
   · skip
     refine region_St (bf := [0, 1, 3, 0, 8, 24, 63, 127]) (sp := [det _ 46 _, det _ 47 _, det _ 48 _, det _ 49 _, det _ 50 _, det _ 51 _, det _ 52 _, det _ 0 _]) [Ini.any _, io r1, ib r2] mixed st13 (by kernel_rfl) ⟨trivial, r1, r2, trivial⟩
      ⟨Ob.d fun c => r_fieldAddr rfl Try.underlying45 rfl rfl Try.sizeOf43 ((c.p e9).trans r2.ptr),
      Ob.d fun c => r_fieldAddr rfl Try.underlying43 rfl rfl Try.sizeOf3 (c.n 0 rfl),
      Ob.d fun c => r_load1 rfl Try.isAgg3 (c.n 1 rfl) (by rw [add_add]; exact (c.ib 2 rfl).cell (j := 0) rfl),
      Ob.d fun c => r_fieldAddr rfl Try.underlying45 rfl rfl Try.sizeOf9 ((c.p e9).trans r2.ptr),
      Ob.d fun c => r_load1 rfl Try.isAgg9 (c.n 3 rfl) ((c.ib 2 rfl).cell (j := 2) rfl),
      Ob.d fun c => r_lenS rfl Try.underlying9 (c.n 4 rfl),
      Ob.d fun c => r_addW rfl (c.n 2 rfl) (c.n 5 rfl),
      Ob.d fun c => r_assign rfl (c.n 6 rfl), trivial⟩ ?_
     intro a14 w14 τ14 st14 f14
     obtain ⟨e1, e6, e9, e14, e15, e16, e17, e23, e29, e44, -⟩ := f14.ks [(1, _), (6, _), (9, _), (14, _), (15, _), (16, _), (17, _), (23, _), (29, _), (44, _)] ⟨e1, e6, e9, e14, e15, e16, e17, e23, e29, e44, trivial⟩
     have e0 : get a14 0 = (.int .i64 (IntKind.i64.wrap ((nth ((isort ltE xs).reverse) ((k : Int))).1 + (((nth ((isort ltE xs).reverse) ((k : Int))).2.2).size : Int)))) := f14.v 7 rfl
     replace r1 := f14.io 1 rfl
     replace r2 := f14.ib 2 rfl
     clear f14
     show _
     show _
     show Code.wp _ _ _ a14 w14
     refine region_St (bf := [0, 1]) (sp := [det _ 53 _, det _ 16 _]) [Ini.any _, io r1, ib r2] mixed st14 (by kernel_rfl) ⟨trivial, r1, r2, trivial⟩
      ⟨Ob.d fun c => r_add rfl (c.p e16) rfl (by first | omega | (simp only [List.length_reverse] at *; omega) | (rw [hil]; omega)),
      Ob.d fun c => r_move rfl (c.n 0 rfl), trivial⟩ ?_
     intro a15 w15 τ15 st15 f15
     obtain ⟨e0, e1, e6, e9, e14, e15, e17, e23, e29, e44, -⟩ := f15.ks [(0, _), (1, _), (6, _), (9, _), (14, _), (15, _), (17, _), (23, _), (29, _), (44, _)] ⟨e0, e1, e6, e9, e14, e15, e17, e23, e29, e44, trivial⟩
     have e16 : get a15 16 = (.int .i64 ((k : Int) + 1)) := f15.v 1 rfl
     replace r1 := f15.io 1 rfl
     replace r2 := f15.ib 2 rfl
     clear f15
     refine ⟨⟨k + 1, τ15, ?_, st15, (e0.trans (int_eq (by first | omega | rfl | exact foldM_lt (by omega) (by assumption) | exact foldM_gt (by omega) (by assumption) (by assumption) | exact foldM_in (by omega) (by assumption) (by assumption) (by assumption) | exact foldM_at (by omega) (by assumption) (by assumption) (by assumption)))), (e16.trans (int_eq (by first | omega | rfl | exact foldM_lt (by omega) (by assumption) | exact foldM_gt (by omega) (by assumption) (by assumption) | exact foldM_in (by omega) (by assumption) (by assumption) (by assumption) | exact foldM_at (by omega) (by assumption) (by assumption) (by assumption)))), e1, e6, e14, e15, r1⟩, ?_⟩
     · omega
     · simp only [m16, e16, intOf]; omega
   skip
   refine region_St (bf := [0, 1, 3, 7]) (sp := [det _ 20 _, det _ 21 _, det _ 22 _, det _ 0 _]) [Ini.any _, io r1, ib r2] mixed st13 (by kernel_rfl) ⟨trivial, r1, r2, trivial⟩
    ⟨Ob.d fun c => r_fieldAddr rfl Try.underlying45 rfl rfl Try.sizeOf43 ((c.p e9).trans r2.ptr),
    Ob.d fun c => r_fieldAddr rfl Try.underlying43 rfl rfl Try.sizeOf3 (c.n 0 rfl),
    Ob.d fun c => r_load1 rfl Try.isAgg3 (c.n 1 rfl) (by rw [add_add]; exact (c.ib 2 rfl).cell (j := 0) rfl),
    Ob.d fun c => r_assign rfl (c.n 2 rfl), trivial⟩ ?_
   intro a16 w16 τ16 st16 f16
   obtain ⟨e1, e6, e9, e14, e15, e16, e17, e23, e29, e44, -⟩ := f16.ks [(1, _), (6, _), (9, _), (14, _), (15, _), (16, _), (17, _), (23, _), (29, _), (44, _)] ⟨e1, e6, e9, e14, e15, e16, e17, e23, e29, e44, trivial⟩
   have e0 : get a16 0 = (.int .i64 ((nth ((isort ltE xs).reverse) ((k : Int))).1)) := f16.v 3 rfl
   replace r1 := f16.io 1 rfl
   replace r2 := f16.ib 2 rfl
   clear f16
   show _
   show _
   show Code.wp _ _ _ a16 w16
   refine region_St (bf := [0, 1]) (sp := [det _ 53 _, det _ 16 _]) [Ini.any _, io r1, ib r2] mixed st16 (by kernel_rfl) ⟨trivial, r1, r2, trivial⟩
    ⟨Ob.d fun c => r_add rfl (c.p e16) rfl (by first | omega | (simp only [List.length_reverse] at *; omega) | (rw [hil]; omega)),
    Ob.d fun c => r_move rfl (c.n 0 rfl), trivial⟩ ?_
   intro a17 w17 τ17 st17 f17
   obtain ⟨e0, e1, e6, e9, e14, e15, e17, e23, e29, e44, -⟩ := f17.ks [(0, _), (1, _), (6, _), (9, _), (14, _), (15, _), (17, _), (23, _), (29, _), (44, _)] ⟨e0, e1, e6, e9, e14, e15, e17, e23, e29, e44, trivial⟩
   have e16 : get a17 16 = (.int .i64 ((k : Int) + 1)) := f17.v 1 rfl
   replace r1 := f17.io 1 rfl
   replace r2 := f17.ib 2 rfl
   clear f17
   refine ⟨⟨k + 1, τ17, ?_, st17, (e0.trans (int_eq (by first | omega | rfl | exact foldM_lt (by omega) (by assumption) | exact foldM_gt (by omega) (by assumption) (by assumption) | exact foldM_in (by omega) (by assumption) (by assumption) (by assumption) | exact foldM_at (by omega) (by assumption) (by assumption) (by assumption)))), (e16.trans (int_eq (by first | omega | rfl | exact foldM_lt (by omega) (by assumption) | exact foldM_gt (by omega) (by assumption) (by assumption) | exact foldM_in (by omega) (by assumption) (by assumption) (by assumption) | exact foldM_at (by omega) (by assumption) (by assumption) (by assumption)))), e1, e6, e14, e15, r1⟩, ?_⟩
   · omega
   · simp only [m16, e16, intOf]; omega
 try simp only [decide_eq_false_iff_not, Int.not_lt] at hc1
 refine wp_exit ?_
 repeat (with_reducible refine then_exit ?_)
 refine exit_here ?_
 show Code.wp _ _ _ a6 w6
 refine wp_seq ?_
 refine region_St (bf := [0, 1]) (sp := [det _ 54 _, det _ 6 _]) [Ini.any _, io r1] mixed st6 (by kernel_rfl) ⟨trivial, r1, trivial⟩
  ⟨Ob.d fun c => r_move rfl (c.p e0),
  Ob.d fun c => r_assign rfl (c.n 0 rfl), trivial⟩ ?_
 intro a18 w18 τ18 st18 f18
 have e6 : get a18 6 = (.int .i64 (foldM n r ((isort ltE xs).reverse.take k))) := f18.v 1 rfl
 clear f18
 show Code.wp _ _ _ a18 w18
 refine wp_ret ?_
 repeat (first | with_reducible refine then_ret ?_ | with_reducible refine block_ret ?_)
 refine ret1 (fn := Try.f27) rfl st18.defers e6 ?_
 exact ⟨congrArg _ (int_eq (by rw [moveW, List.take_of_length_le (by simp only [List.length_reverse]; omega)])), st18.ext0⟩

set_option maxRecDepth 100000 in
theorem much_c (m n : Int) (v : Value) (xs : List (Int × Int × ByteArray)) (w : World) (hS : SlT EditE w v xs) (hn : 0 ≤ n) (hn2 : n ≤ 1000000000) : Calls Try.prog 13 #[(.int .i64 (m)), (.int .i64 (n)), v] w (fun e w' => e = .returned (.bool (muchF m n xs)) ∧ Ext none' w w') := by
 refine enter (n := 34) Try.func13 rfl rfl (Nat.le_of_ble_eq_true rfl) ?_
 intro a0 τ0 ha st0
 have e0 : get a0 0 = (.int .i64 (m)) := ha 0 _ rfl
 have e1 : get a0 1 = (.int .i64 (n)) := ha 1 _ rfl
 have e2 : get a0 2 = v := ha 2 _ rfl
 clear ha
 have hle := hS.le
 refine wp_seq ?_
 refine region_St (bf := [0]) (sp := [det _ 6 _]) [] mixed st0 (by kernel_rfl) trivial
  ⟨Ob.d fun c => r_assign rfl rfl, trivial⟩ ?_
 intro a1 w1 τ1 st1 f1
 obtain ⟨e0, e1, e2, -⟩ := f1.ks [(0, _), (1, _), (2, _)] ⟨e0, e1, e2, trivial⟩
 have e6 : get a1 6 = (.bool (false)) := f1.v 0 rfl
 clear f1
 show Code.wp _ _ _ a1 w1
 refine wp_seq ?_
 refine wp_seq ?_
 refine region_St (bf := [0, 1, 0, 7]) (sp := [det _ 8 _, det _ 9 _, det _ 10 _, det _ 11 _]) [] mixed st1 (by kernel_rfl) trivial
  ⟨Ob.d fun c => r_move rfl (c.p e2),
  Ob.d fun c => r_len rfl Try.underlying22 (c.n 0 rfl) hS.sl,
  Ob.d fun c => r_move rfl (c.p e0),
  Ob.d fun c => r_gtr rfl (c.n 1 rfl) (c.n 2 rfl), trivial⟩ ?_
 intro a2 w2 τ2 st2 f2
 obtain ⟨e1, e2, e6, -⟩ := f2.ks [(1, _), (2, _), (6, _)] ⟨e1, e2, e6, trivial⟩
 have e11 : get a2 11 = (.bool (decide (m < (xs.length : Int)))) := f2.v 3 rfl
 clear f2
 show Code.wp _ _ _ a2 w2
 refine wp_cond_split (t := decide (m < (xs.length : Int))) e11 (fun hc1 => ?_) (fun hc1 => ?_)
 · try simp only [decide_eq_true_eq] at hc1
   refine wp_seq ?_
   refine region_St (bf := [0]) (sp := [det _ 6 _]) [] mixed st2 (by kernel_rfl) trivial
    ⟨Ob.d fun c => r_assign rfl rfl, trivial⟩ ?_
   intro a3 w3 τ3 st3 f3
   obtain ⟨e1, e2, -⟩ := f3.ks [(1, _), (2, _)] ⟨e1, e2, trivial⟩
   have e6 : get a3 6 = (.bool (true)) := f3.v 0 rfl
   clear f3
   show Code.wp _ _ _ a3 w3
   refine wp_ret ?_
   repeat (first | with_reducible refine then_ret ?_ | with_reducible refine block_ret ?_)
   refine ret1 (fn := Try.f13) rfl st3.defers e6 ?_
   exact ⟨congrArg _ (congrArg _ (by unfold muchF; first | (rw [decide_eq_true (by omega)]; rfl) | (rw [decide_eq_false (by omega), muchL_hit (k := k) (by omega) q2 (by omega)]; rfl) | (rw [decide_eq_false (by omega), muchL_end (k := k) (by omega) q2]; rfl))), st3.ext0⟩
 try simp only [decide_eq_false_iff_not, Int.not_lt] at hc1
 refine wp_skip ?_
 show Code.wp _ _ _ a2 w2
 refine wp_seq ?_
 refine wp_seq ?_
 refine region_St (bf := [0]) (sp := [det _ 7 _]) [] mixed st2 (by kernel_rfl) trivial
  ⟨Ob.d fun c => r_assign rfl rfl, trivial⟩ ?_
 intro a4 w4 τ4 st4 f4
 obtain ⟨e1, e2, e6, -⟩ := f4.ks [(1, _), (2, _), (6, _)] ⟨e1, e2, e6, trivial⟩
 have e7 : get a4 7 = (.int .i64 (0)) := f4.v 0 rfl
 clear f4
 show Code.wp _ _ _ a4 w4
 refine wp_block ?_
 refine wp_loop (fun a_ w_ => ∃ (k : Nat) (l : Int) (τ : Nat → Foot), (k ≤ xs.length) ∧
      (0 ≤ l ∧ l ≤ n) ∧
      (muchL n xs = muchL l (xs.drop k)) ∧
      St (Nw w) w 34 a_ w_ τ ∧
      get a_ 1 = (.int .i64 (l)) ∧
      get a_ 7 = (.int .i64 ((k : Int))) ∧
      get a_ 2 = v) (fun a_ _ => xs.length - (intOf (get a_ 7)).toNat) ?_ ?_
 · refine ⟨0, n, τ4, ?_, ?_, ?_, st4, (e1.trans (int_eq (by omega))), (e7.trans (int_eq (by omega))), e2⟩
   · omega
   · omega
   · rfl
 intro a5 w5 hI
 obtain ⟨k, l, τ5, q0, q1, q2, st5, e1, e7, e2⟩ := hI
 have m7 := e7
 refine wp_seq ?_
 refine wp_seq ?_
 refine region_St (bf := [0, 0, 2, 7]) (sp := [det _ 12 _, det _ 13 _, det _ 14 _, det _ 15 _]) [] mixed st5 (by kernel_rfl) trivial
  ⟨Ob.d fun c => r_move rfl (c.p e7),
  Ob.d fun c => r_move rfl (c.p e2),
  Ob.d fun c => r_len rfl Try.underlying22 (c.n 1 rfl) hS.sl,
  Ob.d fun c => r_lss rfl (c.n 0 rfl) (c.n 2 rfl), trivial⟩ ?_
 intro a6 w6 τ6 st6 f6
 obtain ⟨e1, e2, e7, -⟩ := f6.ks [(1, _), (2, _), (7, _)] ⟨e1, e2, e7, trivial⟩
 have e15 : get a6 15 = (.bool (decide ((k : Int) < (xs.length : Int)))) := f6.v 3 rfl
 clear f6
 show Code.wp _ _ _ a6 w6
 refine wp_cond_split (t := decide ((k : Int) < (xs.length : Int))) e15 (fun hc2 => ?_) (fun hc2 => ?_)
 · try simp only [decide_eq_true_eq] at hc2
   refine wp_skip ?_
   show Code.wp _ _ _ a6 w6
   refine wp_seq ?_
   refine wp_block ?_
   refine wp_seq ?_
   refine wp_seq ?_
   refine region_St (bf := [0, 0, 3, 7, 15, 31, 0, 127]) (sp := [det _ 18 _, det _ 19 _, det _ 20 _, det _ 21 _, det _ 22 _, det _ 23 _, det _ 24 _, det _ 25 _]) [] mixed st6 (by kernel_rfl) trivial
    ⟨Ob.d fun c => r_move rfl (c.p e2),
    Ob.d fun c => r_move rfl (c.p e7),
    Ob.d fun c => r_indexAddr rfl Try.underlying22 Try.sizeOf45 (c.n 0 rfl) hS.sl (c.n 1 rfl) (by omega) (by omega),
    Ob.d fun c => r_fieldAddr rfl Try.underlying45 rfl rfl Try.sizeOf9 (c.n 2 rfl),
    Ob.d fun c => r_load1 rfl Try.isAgg9 (c.n 3 rfl) (((hS.at (st6.ext.trans c.J.ext))).elem (j := 2) (nth_some (i := (k : Int)) (by omega) (by omega)) rfl),
    Ob.d fun c => r_lenS rfl Try.underlying9 (c.n 4 rfl),
    Ob.d fun c => r_move rfl (c.p e1),
    Ob.d fun c => r_gtr rfl (c.n 5 rfl) (c.n 6 rfl), trivial⟩ ?_
   intro a7 w7 τ7 st7 f7
   obtain ⟨e1, e2, e7, e15, -⟩ := f7.ks [(1, _), (2, _), (7, _), (15, _)] ⟨e1, e2, e7, e15, trivial⟩
   have e25 : get a7 25 = (.bool (decide (l < (((nth xs ((k : Int))).2.2).size : Int)))) := f7.v 7 rfl
   clear f7
   show Code.wp _ _ _ a7 w7
   refine wp_cond_split (t := decide (l < (((nth xs ((k : Int))).2.2).size : Int))) e25 (fun hc3 => ?_) (fun hc3 => ?_)
   · try simp only [decide_eq_true_eq] at hc3
     refine wp_seq ?_
     refine region_St (bf := [0]) (sp := [det _ 6 _]) [] mixed st7 (by kernel_rfl) trivial
      ⟨Ob.d fun c => r_assign rfl rfl, trivial⟩ ?_
     intro a8 w8 τ8 st8 f8
     obtain ⟨e1, e2, e7, e15, e25, -⟩ := f8.ks [(1, _), (2, _), (7, _), (15, _), (25, _)] ⟨e1, e2, e7, e15, e25, trivial⟩
     have e6 : get a8 6 = (.bool (true)) := f8.v 0 rfl
     clear f8
     show Code.wp _ _ _ a8 w8
     refine wp_ret ?_
     repeat (first | with_reducible refine then_ret ?_ | with_reducible refine block_ret ?_)
     refine ret1 (fn := Try.f13) rfl st8.defers e6 ?_
     exact ⟨congrArg _ (congrArg _ (by unfold muchF; first | (rw [decide_eq_true (by omega)]; rfl) | (rw [decide_eq_false (by omega), muchL_hit (k := k) (by omega) q2 (by omega)]; rfl) | (rw [decide_eq_false (by omega), muchL_end (k := k) (by omega) q2]; rfl))), st8.ext0⟩
   try simp only [decide_eq_false_iff_not, Int.not_lt] at hc3
   refine wp_skip ?_
   show Code.wp _ _ _ a7 w7
   refine region_St (bf := [0, 0, 0, 6, 14, 30, 62, 127, 255]) (sp := [det _ 26 _, det _ 27 _, det _ 28 _, det _ 29 _, det _ 30 _, det _ 31 _, det _ 32 _, det _ 33 _, det _ 1 _]) [] mixed st7 (by kernel_rfl) trivial
    ⟨Ob.d fun c => r_move rfl (c.p e1),
    Ob.d fun c => r_move rfl (c.p e2),
    Ob.d fun c => r_move rfl (c.p e7),
    Ob.d fun c => r_indexAddr rfl Try.underlying22 Try.sizeOf45 (c.n 1 rfl) hS.sl (c.n 2 rfl) (by omega) (by omega),
    Ob.d fun c => r_fieldAddr rfl Try.underlying45 rfl rfl Try.sizeOf9 (c.n 3 rfl),
    Ob.d fun c => r_load1 rfl Try.isAgg9 (c.n 4 rfl) (((hS.at (st7.ext.trans c.J.ext))).elem (j := 2) (nth_some (i := (k : Int)) (by omega) (by omega)) rfl),
    Ob.d fun c => r_lenS rfl Try.underlying9 (c.n 5 rfl),
    Ob.d fun c => r_sub rfl (c.n 0 rfl) (c.n 6 rfl) (by omega),
    Ob.d fun c => r_assign rfl (c.n 7 rfl), trivial⟩ ?_
   intro a9 w9 τ9 st9 f9
   obtain ⟨e2, e7, e15, e25, -⟩ := f9.ks [(2, _), (7, _), (15, _), (25, _)] ⟨e2, e7, e15, e25, trivial⟩
   have e1 : get a9 1 = (.int .i64 (l - (((nth xs ((k : Int))).2.2).size : Int))) := f9.v 8 rfl
   clear f9
   show _
   show Code.wp _ _ _ a9 w9
   refine region_St (bf := [0, 1, 3]) (sp := [det _ 16 _, det _ 17 _, det _ 7 _]) [] mixed st9 (by kernel_rfl) trivial
    ⟨Ob.d fun c => r_move rfl (c.p e7),
    Ob.d fun c => r_add rfl (c.n 0 rfl) rfl (by omega),
    Ob.d fun c => r_assign rfl (c.n 1 rfl), trivial⟩ ?_
   intro a10 w10 τ10 st10 f10
   obtain ⟨e1, e2, e15, e25, -⟩ := f10.ks [(1, _), (2, _), (15, _), (25, _)] ⟨e1, e2, e15, e25, trivial⟩
   have e7 : get a10 7 = (.int .i64 ((k : Int) + 1)) := f10.v 2 rfl
   clear f10
   refine ⟨⟨k + 1, l - (((nth xs ((k : Int))).2.2).size : Int), τ10, ?_, ?_, ?_, st10, (e1.trans (int_eq (by omega))), (e7.trans (int_eq (by omega))), e2⟩, ?_⟩
   · omega
   · omega
   · exact muchL_next (by omega) q2 (by omega)
   · simp only [m7, e7, intOf]; omega
 try simp only [decide_eq_false_iff_not, Int.not_lt] at hc2
 refine wp_exit ?_
 repeat (with_reducible refine then_exit ?_)
 refine exit_here ?_
 show Code.wp _ _ _ a6 w6
 refine wp_seq ?_
 refine region_St (bf := [0]) (sp := [det _ 6 _]) [] mixed st6 (by kernel_rfl) trivial
  ⟨Ob.d fun c => r_assign rfl rfl, trivial⟩ ?_
 intro a11 w11 τ11 st11 f11
 have e6 : get a11 6 = (.bool (false)) := f11.v 0 rfl
 clear f11
 show Code.wp _ _ _ a11 w11
 refine wp_ret ?_
 repeat (first | with_reducible refine then_ret ?_ | with_reducible refine block_ret ?_)
 refine ret1 (fn := Try.f13) rfl st11.defers e6 ?_
 exact ⟨congrArg _ (congrArg _ (by unfold muchF; first | (rw [decide_eq_true (by omega)]; rfl) | (rw [decide_eq_false (by omega), muchL_hit (k := k) (by omega) q2 (by omega)]; rfl) | (rw [decide_eq_false (by omega), muchL_end (k := k) (by omega) q2]; rfl))), st11.ext0⟩

set_option maxRecDepth 100000 in
theorem edits_c (v u : Value) (xs ys : List (Int × Int × ByteArray)) (w : World) (hS : SlT EditE w v xs) (hU : SlT EditE w u ys) : Calls Try.prog 21 #[v, u] w (fun e w' => e = .returned (.bool (decide (xs = ys))) ∧ Ext none' w w') := by
 refine enter (n := 26) Try.func21 rfl rfl (Nat.le_of_ble_eq_true rfl) ?_
 intro a0 τ0 ha st0
 have e0 : get a0 0 = v := ha 0 _ rfl
 have e1 : get a0 1 = u := ha 1 _ rfl
 clear ha
 have hle := hS.le
 have hle2 := hU.le
 refine wp_seq ?_
 refine region_St (bf := [0]) (sp := [det _ 4 _]) [] mixed st0 (by kernel_rfl) trivial
  ⟨Ob.d fun c => r_assign rfl rfl, trivial⟩ ?_
 intro a1 w1 τ1 st1 f1
 obtain ⟨e0, e1, -⟩ := f1.ks [(0, _), (1, _)] ⟨e0, e1, trivial⟩
 have e4 : get a1 4 = (.bool (false)) := f1.v 0 rfl
 clear f1
 show Code.wp _ _ _ a1 w1
 refine wp_seq ?_
 refine wp_seq ?_
 refine region_St (bf := [0, 1, 0, 4, 15]) (sp := [det _ 6 _, det _ 7 _, det _ 8 _, det _ 9 _, det _ 10 _]) [] mixed st1 (by kernel_rfl) trivial
  ⟨Ob.d fun c => r_move rfl (c.p e0),
  Ob.d fun c => r_len rfl Try.underlying22 (c.n 0 rfl) hS.sl,
  Ob.d fun c => r_move rfl (c.p e1),
  Ob.d fun c => r_len rfl Try.underlying22 (c.n 2 rfl) hU.sl,
  Ob.d fun c => r_neq rfl (c.n 1 rfl) (c.n 3 rfl), trivial⟩ ?_
 intro a2 w2 τ2 st2 f2
 obtain ⟨e0, e1, e4, -⟩ := f2.ks [(0, _), (1, _), (4, _)] ⟨e0, e1, e4, trivial⟩
 have e10 : get a2 10 = (.bool (!decide ((xs.length : Int) = (ys.length : Int)))) := f2.v 4 rfl
 clear f2
 show Code.wp _ _ _ a2 w2
 refine wp_cond_split (t := !decide ((xs.length : Int) = (ys.length : Int))) e10 (fun hc1 => ?_) (fun hc1 => ?_)
 · try simp only [Bool.not_eq_true', Bool.not_eq_false', decide_eq_true_eq, decide_eq_false_iff_not] at hc1
   refine wp_seq ?_
   refine region_St (bf := [0]) (sp := [det _ 4 _]) [] mixed st2 (by kernel_rfl) trivial
    ⟨Ob.d fun c => r_assign rfl rfl, trivial⟩ ?_
   intro a3 w3 τ3 st3 f3
   obtain ⟨e0, e1, -⟩ := f3.ks [(0, _), (1, _)] ⟨e0, e1, trivial⟩
   have e4 : get a3 4 = (.bool (false)) := f3.v 0 rfl
   clear f3
   show Code.wp _ _ _ a3 w3
   refine wp_ret ?_
   repeat (first | with_reducible refine then_ret ?_ | with_reducible refine block_ret ?_)
   refine ret1 (fn := Try.f21) rfl st3.defers e4 ?_
   exact ⟨congrArg _ (congrArg _ (by first | (symm; exact decide_eq_false (fun h => by subst h; omega)) | (symm; exact decide_eq_false (differ (by assumption))) | (symm; exact decide_eq_true (all_same q1 q0 q2 (by assumption))))), st3.ext0⟩
 try simp only [Bool.not_eq_true', Bool.not_eq_false', decide_eq_true_eq, decide_eq_false_iff_not] at hc1
 refine wp_skip ?_
 show Code.wp _ _ _ a2 w2
 refine wp_seq ?_
 refine wp_seq ?_
 refine region_St (bf := [0]) (sp := [det _ 5 _]) [] mixed st2 (by kernel_rfl) trivial
  ⟨Ob.d fun c => r_assign rfl rfl, trivial⟩ ?_
 intro a4 w4 τ4 st4 f4
 obtain ⟨e0, e1, e4, -⟩ := f4.ks [(0, _), (1, _), (4, _)] ⟨e0, e1, e4, trivial⟩
 have e5 : get a4 5 = (.int .i64 (0)) := f4.v 0 rfl
 clear f4
 show Code.wp _ _ _ a4 w4
 refine wp_block ?_
 refine wp_loop (fun a_ w_ => ∃ (k : Nat) (τ : Nat → Foot), (k ≤ xs.length) ∧
      (xs.length = ys.length) ∧
      (xs.take k = ys.take k) ∧
      St (Nw w) w 26 a_ w_ τ ∧
      get a_ 5 = (.int .i64 ((k : Int))) ∧
      get a_ 0 = v ∧
      get a_ 1 = u) (fun a_ _ => xs.length - (intOf (get a_ 5)).toNat) ?_ ?_
 · refine ⟨0, τ4, ?_, ?_, ?_, st4, (e5.trans (int_eq (by omega))), e0, e1⟩
   · omega
   · omega
   · simp
 intro a5 w5 hI
 obtain ⟨k, τ5, q0, q1, q2, st5, e5, e0, e1⟩ := hI
 have m5 := e5
 refine wp_seq ?_
 refine wp_seq ?_
 refine region_St (bf := [0, 0, 2, 7]) (sp := [det _ 11 _, det _ 12 _, det _ 13 _, det _ 14 _]) [] mixed st5 (by kernel_rfl) trivial
  ⟨Ob.d fun c => r_move rfl (c.p e5),
  Ob.d fun c => r_move rfl (c.p e0),
  Ob.d fun c => r_len rfl Try.underlying22 (c.n 1 rfl) hS.sl,
  Ob.d fun c => r_lss rfl (c.n 0 rfl) (c.n 2 rfl), trivial⟩ ?_
 intro a6 w6 τ6 st6 f6
 obtain ⟨e0, e1, e5, -⟩ := f6.ks [(0, _), (1, _), (5, _)] ⟨e0, e1, e5, trivial⟩
 have e14 : get a6 14 = (.bool (decide ((k : Int) < (xs.length : Int)))) := f6.v 3 rfl
 clear f6
 show Code.wp _ _ _ a6 w6
 refine wp_cond_split (t := decide ((k : Int) < (xs.length : Int))) e14 (fun hc2 => ?_) (fun hc2 => ?_)
 · try simp only [decide_eq_true_eq] at hc2
   refine wp_skip ?_
   show Code.wp _ _ _ a6 w6
   refine wp_seq ?_
   refine wp_block ?_
   refine wp_seq ?_
   refine region_St (bf := [0, 0, 3, 7, 0, 0, 48, 112, 255]) (sp := [det _ 17 _, det _ 18 _, det _ 19 _, det _ 20 _, det _ 21 _, det _ 22 _, det _ 23 _, det _ 24 _, det _ 25 _]) [] mixed st6 (by kernel_rfl) trivial
    ⟨Ob.d fun c => r_move rfl (c.p e0),
    Ob.d fun c => r_move rfl (c.p e5),
    Ob.d fun c => r_indexAddr rfl Try.underlying22 Try.sizeOf45 (c.n 0 rfl) hS.sl (c.n 1 rfl) (by omega) (by omega),
    Ob.d fun c => r_loadN (vs := [(.int .i64 ((nth xs ((k : Int))).1)), (.int .i64 ((nth xs ((k : Int))).2.1)), (.string ((nth xs ((k : Int))).2.2))]) rfl Try.isAgg45 Try.sizeOf45 (c.n 2 rfl) rfl (fun _ _ hj => ((hS.at (st6.ext.trans c.J.ext))).elem (nth_some (i := (k : Int)) (by omega) (by omega)) hj),
    Ob.d fun c => r_move rfl (c.p e1),
    Ob.d fun c => r_move rfl (c.p e5),
    Ob.d fun c => r_indexAddr rfl Try.underlying22 Try.sizeOf45 (c.n 4 rfl) hU.sl (c.n 5 rfl) (by omega) (by omega),
    Ob.d fun c => r_loadN (vs := [(.int .i64 ((nth ys ((k : Int))).1)), (.int .i64 ((nth ys ((k : Int))).2.1)), (.string ((nth ys ((k : Int))).2.2))]) rfl Try.isAgg45 Try.sizeOf45 (c.n 6 rfl) rfl (fun _ _ hj => ((hU.at (st6.ext.trans c.J.ext))).elem (nth_some (i := (k : Int)) (by omega) (by omega)) hj),
    Ob.d fun c => edit_ne rfl (c.n 3 rfl) (c.n 7 rfl), trivial⟩ ?_
   intro a7 w7 τ7 st7 f7
   obtain ⟨e0, e1, e5, e14, -⟩ := f7.ks [(0, _), (1, _), (5, _), (14, _)] ⟨e0, e1, e5, e14, trivial⟩
   have e25 : get a7 25 = (.bool (!(editB (nth xs ((k : Int))) (nth ys ((k : Int)))))) := f7.v 8 rfl
   clear f7
   show Code.wp _ _ _ a7 w7
   refine wp_cond_split (t := !(editB (nth xs ((k : Int))) (nth ys ((k : Int))))) e25 (fun hc3 => ?_) (fun hc3 => ?_)
   · try simp only [Bool.not_eq_true', Bool.not_eq_false', decide_eq_true_eq, decide_eq_false_iff_not, editB] at hc3
     refine wp_seq ?_
     refine region_St (bf := [0]) (sp := [det _ 4 _]) [] mixed st7 (by kernel_rfl) trivial
      ⟨Ob.d fun c => r_assign rfl rfl, trivial⟩ ?_
     intro a8 w8 τ8 st8 f8
     obtain ⟨e0, e1, e5, e14, e25, -⟩ := f8.ks [(0, _), (1, _), (5, _), (14, _), (25, _)] ⟨e0, e1, e5, e14, e25, trivial⟩
     have e4 : get a8 4 = (.bool (false)) := f8.v 0 rfl
     clear f8
     show Code.wp _ _ _ a8 w8
     refine wp_ret ?_
     repeat (first | with_reducible refine then_ret ?_ | with_reducible refine block_ret ?_)
     refine ret1 (fn := Try.f21) rfl st8.defers e4 ?_
     exact ⟨congrArg _ (congrArg _ (by first | (symm; exact decide_eq_false (fun h => by subst h; omega)) | (symm; exact decide_eq_false (differ (by assumption))) | (symm; exact decide_eq_true (all_same q1 q0 q2 (by assumption))))), st8.ext0⟩
   try simp only [Bool.not_eq_true', Bool.not_eq_false', decide_eq_true_eq, decide_eq_false_iff_not, editB] at hc3
   refine wp_skip ?_
   show _
   show Code.wp _ _ _ a7 w7
   refine region_St (bf := [0, 1, 3]) (sp := [det _ 15 _, det _ 16 _, det _ 5 _]) [] mixed st7 (by kernel_rfl) trivial
    ⟨Ob.d fun c => r_move rfl (c.p e5),
    Ob.d fun c => r_add rfl (c.n 0 rfl) rfl (by omega),
    Ob.d fun c => r_assign rfl (c.n 1 rfl), trivial⟩ ?_
   intro a9 w9 τ9 st9 f9
   obtain ⟨e0, e1, e14, e25, -⟩ := f9.ks [(0, _), (1, _), (14, _), (25, _)] ⟨e0, e1, e14, e25, trivial⟩
   have e5 : get a9 5 = (.int .i64 ((k : Int) + 1)) := f9.v 2 rfl
   clear f9
   refine ⟨⟨k + 1, τ9, ?_, ?_, ?_, st9, (e5.trans (int_eq (by omega))), e0, e1⟩, ?_⟩
   · omega
   · omega
   · exact take_same (by omega) (by omega) q2 (by assumption)
   · simp only [m5, e5, intOf]; omega
 try simp only [decide_eq_false_iff_not, Int.not_lt] at hc2
 refine wp_exit ?_
 repeat (with_reducible refine then_exit ?_)
 refine exit_here ?_
 show Code.wp _ _ _ a6 w6
 refine wp_seq ?_
 refine region_St (bf := [0]) (sp := [det _ 4 _]) [] mixed st6 (by kernel_rfl) trivial
  ⟨Ob.d fun c => r_assign rfl rfl, trivial⟩ ?_
 intro a10 w10 τ10 st10 f10
 have e4 : get a10 4 = (.bool (true)) := f10.v 0 rfl
 clear f10
 show Code.wp _ _ _ a10 w10
 refine wp_ret ?_
 repeat (first | with_reducible refine then_ret ?_ | with_reducible refine block_ret ?_)
 refine ret1 (fn := Try.f21) rfl st10.defers e4 ?_
 exact ⟨congrArg _ (congrArg _ (by first | (symm; exact decide_eq_false (fun h => by subst h; omega)) | (symm; exact decide_eq_false (differ (by assumption))) | (symm; exact decide_eq_true (all_same q1 q0 q2 (by assumption))))), st10.ext0⟩

set_option maxRecDepth 100000 in
theorem apartP_c (n : Int) (v : Value) (xs : List (Int × Int × ByteArray)) (w : World) (hS : SlT EditE w v xs) (hn : 0 ≤ n) (hn2 : n ≤ 1000000) : Calls Try.prog 24 #[(.int .i64 (n)), v] w (fun e w' => ∃ v', e = .returned v' ∧ Ext none' w w' ∧ NewT EditE 45 w w' v' (apF n xs)) := by
 refine enter (n := 89) Try.func24 rfl rfl (Nat.le_of_ble_eq_true rfl) ?_
 intro a0 τ0 ha st0
 have e0 : get a0 0 = (.int .i64 (n)) := ha 0 _ rfl
 have e1 : get a0 1 = v := ha 1 _ rfl
 clear ha
 have hle := hS.le
 refine wp_seq ?_
 refine region_St (bf := [0]) (sp := [det _ 4 _]) [] mixed st0 (by kernel_rfl) trivial
  ⟨Ob.d fun c => r_assign rfl rfl, trivial⟩ ?_
 intro a1 w1 τ1 st1 f1
 obtain ⟨e0, e1, -⟩ := f1.ks [(0, _), (1, _)] ⟨e0, e1, trivial⟩
 have e4 : get a1 4 = (.slice none 0 0) := f1.v 0 rfl
 clear f1
 show Code.wp _ _ _ a1 w1
 refine wp_seq ?_
 refine region_St (bf := [0]) (sp := [det _ 5 _]) [] mixed st1 (by kernel_rfl) trivial
  ⟨Ob.d fun c => r_assign rfl rfl, trivial⟩ ?_
 intro a2 w2 τ2 st2 f2
 obtain ⟨e0, e1, e4, -⟩ := f2.ks [(0, _), (1, _), (4, _)] ⟨e0, e1, e4, trivial⟩
 have e5 : get a2 5 = (.slice none 0 0) := f2.v 0 rfl
 clear f2
 show Code.wp _ _ _ a2 w2
 refine wp_seq ?_
 refine region_St (bf := [0, 1]) (sp := [det _ 6 _, det _ 7 _]) [] mixed st2 (by kernel_rfl) trivial
  ⟨Ob.d fun c => r_assign rfl rfl,
  Ob.d fun c => r_assign rfl rfl, trivial⟩ ?_
 intro a3 w3 τ3 st3 f3
 obtain ⟨e0, e1, e4, e5, -⟩ := f3.ks [(0, _), (1, _), (4, _), (5, _)] ⟨e0, e1, e4, e5, trivial⟩
 have e6 : get a3 6 = (.int .i64 (0)) := f3.v 0 rfl
 have e7 : get a3 7 = (.int .i64 (200)) := f3.v 1 rfl
 clear f3
 show Code.wp _ _ _ a3 w3
 refine wp_seq ?_
 refine wp_seq ?_
 refine region_St (bf := [0]) (sp := [det _ 8 _]) [] mixed st3 (by kernel_rfl) trivial
  ⟨Ob.d fun c => r_assign rfl rfl, trivial⟩ ?_
 intro a4 w4 τ4 st4 f4
 obtain ⟨e0, e1, e4, e5, e6, e7, -⟩ := f4.ks [(0, _), (1, _), (4, _), (5, _), (6, _), (7, _)] ⟨e0, e1, e4, e5, e6, e7, trivial⟩
 have e8 : get a4 8 = (.int .i64 (0)) := f4.v 0 rfl
 clear f4
 show Code.wp _ _ _ a4 w4
 refine wp_block ?_
 refine wp_loop (fun a_ w_ => ∃ (k : Nat) (u : Value) (τ : Nat → Foot), (k ≤ xs.length) ∧
      (k ≤ 20) ∧
      St (Nw w) w 89 a_ w_ τ ∧
      get a_ 5 = u ∧
      get a_ 6 = (.int .i64 ((apS n (xs.take k)).2.1)) ∧
      get a_ 7 = (.int .i64 ((apS n (xs.take k)).2.2)) ∧
      get a_ 8 = (.int .i64 ((k : Int))) ∧
      get a_ 0 = (.int .i64 (n)) ∧
      get a_ 1 = v ∧
      get a_ 4 = (.slice none 0 0) ∧
      ownR EditE 45 ((apS n (xs.take k)).1) (τ 0) u w_) (fun a_ _ => xs.length - (intOf (get a_ 8)).toNat) ?_ ?_
 · refine ⟨0, (.slice none 0 0), τ4, ?_, ?_, st4, e5, (e6.trans (int_eq (by first | omega | rfl | (rw [apS_skip (by omega) (by assumption)]) | (rw [apS_put (by omega) (by assumption)])))), (e7.trans (int_eq (by first | omega | rfl | (rw [apS_skip (by omega) (by assumption)]) | (rw [apS_put (by omega) (by assumption)])))), (e8.trans (int_eq (by first | omega | rfl | (rw [apS_skip (by omega) (by assumption)]) | (rw [apS_put (by omega) (by assumption)])))), e0, e1, e4, ?_⟩
   · omega
   · omega
   · exact ownR.nil _ _ _ _
 intro a5 w5 hI
 obtain ⟨k, u, τ5, q0, q1, st5, e5, e6, e7, e8, e0, e1, e4, r0⟩ := hI
 have hat := apS_at hn (ps := xs) (k := k) q1
 have hl1 := low_range (nth xs (k : Int)).1 5 (by omega) (by omega)
 have hl2 := low_range (nth xs (k : Int)).2.1 5 (by omega) (by omega)
 have m8 := e8
 refine wp_seq ?_
 refine wp_seq ?_
 refine region_St (bf := [0, 0, 2, 7, 15, 31, 63, 127]) (sp := [det _ 11 _, det _ 12 _, det _ 13 _, det _ 14 _, det _ 15 _, gdet _ 16 _ _, gdet _ 17 _ _, det _ 18 _]) [io r0] mixed st5 (by kernel_rfl) ⟨r0, trivial⟩
  ⟨Ob.d fun c => r_move rfl (c.p e8),
  Ob.d fun c => r_move rfl (c.p e1),
  Ob.d fun c => r_len rfl Try.underlying38 (c.n 1 rfl) hS.sl,
  Ob.d fun c => r_lss rfl (c.n 0 rfl) (c.n 2 rfl),
  Ob.d fun c => r_move rfl (c.n 3 rfl),
  Ob.g 4 true rfl fun c hpc => r_move rfl (c.p e8),
  Ob.g 4 true rfl fun c hpc => r_lss rfl (c.m 5 rfl hpc) rfl,
  Ob.d fun c => r_and rfl (c.n 4 rfl) (fun h => c.m 6 rfl h), trivial⟩ ?_
 intro a6 w6 τ6 st6 f6
 obtain ⟨e0, e1, e4, e5, e6, e7, e8, -⟩ := f6.ks [(0, _), (1, _), (4, _), (5, _), (6, _), (7, _), (8, _)] ⟨e0, e1, e4, e5, e6, e7, e8, trivial⟩
 have e18 : get a6 18 = (.bool ((decide ((k : Int) < (xs.length : Int))) && (decide ((k : Int) < 20)))) := f6.v 7 rfl
 replace r0 := f6.io 0 rfl
 clear f6
 show Code.wp _ _ _ a6 w6
 refine wp_cond_split (t := (decide ((k : Int) < (xs.length : Int))) && (decide ((k : Int) < 20))) e18 (fun hc1 => ?_) (fun hc1 => ?_)
 · try simp only [Bool.and_eq_true, decide_eq_true_eq] at hc1
   refine wp_skip ?_
   show Code.wp _ _ _ a6 w6
   refine wp_seq ?_
   refine wp_block ?_
   refine wp_seq ?_
   refine region_St (bf := [0, 0, 0, 6, 14, 30, 62, 127, 255]) (sp := [det _ 21 _, det _ 22 _, det _ 23 _, det _ 24 _, det _ 25 _, det _ 26 _, det _ 27 _, det _ 28 _, det _ 9 _]) [io r0] mixed st6 (by kernel_rfl) ⟨r0, trivial⟩
    ⟨Ob.d fun c => r_move rfl (c.p e6),
    Ob.d fun c => r_move rfl (c.p e1),
    Ob.d fun c => r_move rfl (c.p e8),
    Ob.d fun c => r_indexAddr rfl Try.underlying38 Try.sizeOf68 (c.n 1 rfl) hS.sl (c.n 2 rfl) (by omega) (by omega),
    Ob.d fun c => r_fieldAddr rfl Try.underlying68 rfl rfl Try.sizeOf3 (c.n 3 rfl),
    Ob.d fun c => r_load1 rfl Try.isAgg3 (c.n 4 rfl) (((hS.at (st6.ext.trans c.J.ext))).elem (j := 0) (nth_some (i := (k : Int)) (by omega) (by omega)) rfl),
    Ob.c fun c => ⟨_, _, (e_call2 rfl rfl Try.call28 (c.n 5 rfl) rfl), low_c ((nth xs ((k : Int))).1) 5 _ (by omega) (by omega)⟩,
    Ob.d fun c => r_add rfl (c.n 0 rfl) (c.n 6 rfl) (by omega),
    Ob.d fun c => r_assign rfl (c.n 7 rfl), trivial⟩ ?_
   intro a7 w7 τ7 st7 f7
   obtain ⟨e0, e1, e4, e5, e6, e7, e8, e18, -⟩ := f7.ks [(0, _), (1, _), (4, _), (5, _), (6, _), (7, _), (8, _), (18, _)] ⟨e0, e1, e4, e5, e6, e7, e8, e18, trivial⟩
   have e9 : get a7 9 = (.int .i64 ((apS n (xs.take k)).2.1 + (lowF ((nth xs ((k : Int))).1) 5))) := f7.v 8 rfl
   replace r0 := f7.io 0 rfl
   clear f7
   show Code.wp _ _ _ a7 w7
   refine wp_seq ?_
   refine region_St (bf := [0, 0, 0, 6, 14, 30, 62, 127, 255]) (sp := [det _ 29 _, det _ 30 _, det _ 31 _, det _ 32 _, det _ 33 _, det _ 34 _, det _ 35 _, det _ 36 _, det _ 10 _]) [io r0] mixed st7 (by kernel_rfl) ⟨r0, trivial⟩
    ⟨Ob.d fun c => r_move rfl (c.p e9),
    Ob.d fun c => r_move rfl (c.p e1),
    Ob.d fun c => r_move rfl (c.p e8),
    Ob.d fun c => r_indexAddr rfl Try.underlying38 Try.sizeOf68 (c.n 1 rfl) hS.sl (c.n 2 rfl) (by omega) (by omega),
    Ob.d fun c => r_fieldAddr rfl Try.underlying68 rfl rfl Try.sizeOf3 (c.n 3 rfl),
    Ob.d fun c => r_load1 rfl Try.isAgg3 (c.n 4 rfl) (((hS.at (st7.ext.trans c.J.ext))).elem (j := 1) (nth_some (i := (k : Int)) (by omega) (by omega)) rfl),
    Ob.c fun c => ⟨_, _, (e_call2 rfl rfl Try.call28 (c.n 5 rfl) rfl), low_c ((nth xs ((k : Int))).2.1) 5 _ (by omega) (by omega)⟩,
    Ob.d fun c => r_add rfl (c.n 0 rfl) (c.n 6 rfl) (by omega),
    Ob.d fun c => r_assign rfl (c.n 7 rfl), trivial⟩ ?_
   intro a8 w8 τ8 st8 f8
   obtain ⟨e0, e1, e4, e5, e6, e7, e8, e9, e18, -⟩ := f8.ks [(0, _), (1, _), (4, _), (5, _), (6, _), (7, _), (8, _), (9, _), (18, _)] ⟨e0, e1, e4, e5, e6, e7, e8, e9, e18, trivial⟩
   have e10 : get a8 10 = (.int .i64 ((apS n (xs.take k)).2.1 + (lowF ((nth xs ((k : Int))).1) 5) + (lowF ((nth xs ((k : Int))).2.1) 5))) := f8.v 8 rfl
   replace r0 := f8.io 0 rfl
   clear f8
   show Code.wp _ _ _ a8 w8
   refine wp_seq ?_
   refine wp_seq ?_
   refine region_St (bf := [0, 0, 3, 7, 15, 15, 63, 127, 255, 511, 15, 2047, 4095, 8191, 16383, 32767, 65535, 131071, 262143, 262143, 262143, 1310719, 3407871, 8126463, 16515071, 33292287, 66846719, 134217727, 268435455, 536870911]) (sp := [det _ 37 _, det _ 38 _, det _ 39 _, det _ 40 _, gdet _ 41 _ _, gdet _ 42 _ _, gdet _ 43 _ _, gdet _ 44 _ _, gdet _ 45 _ _, gdet _ 46 _ _, gdet _ 47 _ _, gdet _ 48 _ _, det _ 49 _, det _ 50 _, gdet _ 51 _ _, gdet _ 52 _ _, gdet _ 53 _ _, gdet _ 54 _ _, gdet _ 55 _ _, gdet _ 56 _ _, gdet _ 57 _ _, gdet _ 58 _ _, gdet _ 59 _ _, gdet _ 60 _ _, gdet _ 61 _ _, gdet _ 62 _ _, gdet _ 63 _ _, gdet _ 64 _ _, gdet _ 65 _ _, det _ 66 _]) [io r0] mixed st8 (by kernel_rfl) ⟨r0, trivial⟩
    ⟨Ob.d fun c => r_move rfl (c.p e10),
    Ob.d fun c => r_move rfl (c.p e0),
    Ob.d fun c => r_gtr rfl (c.n 0 rfl) (c.n 1 rfl),
    Ob.d fun c => r_move rfl (c.n 2 rfl),
    Ob.g 3 false rfl fun c hpc => r_move rfl (c.p e1),
    Ob.g 3 false rfl fun c hpc => r_move rfl (c.p e8),
    Ob.g 3 false rfl fun c hpc => r_indexAddr rfl Try.underlying38 Try.sizeOf68 (c.m 4 rfl hpc) hS.sl (c.m 5 rfl hpc) (by have hq0 := bn hpc; omega) (by have hq0 := bn hpc; omega),
    Ob.g 3 false rfl fun c hpc => r_fieldAddr rfl Try.underlying68 rfl rfl Try.sizeOf9 (c.m 6 rfl hpc),
    Ob.g 3 false rfl fun c hpc => r_load1 rfl Try.isAgg9 (c.m 7 rfl hpc) (((hS.at (st8.ext.trans c.J.ext))).elem (j := 2) (nth_some (i := (k : Int)) (by have hq0 := bn hpc; omega) (by have hq0 := bn hpc; omega)) rfl),
    Ob.g 3 false rfl fun c hpc => r_lenS rfl Try.underlying9 (c.m 8 rfl hpc),
    Ob.g 3 false rfl fun c hpc => r_move rfl (c.p e7),
    Ob.g 3 false rfl fun c hpc => r_gtr rfl (c.m 9 rfl hpc) (c.m 10 rfl hpc),
    Ob.d fun c => r_or rfl (c.n 3 rfl) (fun h => c.m 11 rfl h),
    Ob.d fun c => r_move rfl (c.n 12 rfl),
    Ob.g 13 false rfl fun c hpc => r_move rfl (c.p e5),
    Ob.g 13 false rfl fun c hpc => r_len rfl Try.underlying22 (c.m 14 rfl hpc) r0.isSl,
    Ob.g 13 false rfl fun c hpc => r_gtr rfl (c.m 15 rfl hpc) rfl,
    Ob.g 13 false rfl fun c hpc => r_move rfl (c.m 16 rfl hpc),
    Ob.gg 17 true rfl fun c hpc => r_move rfl (c.p e9),
    Ob.gg 17 true rfl fun c hpc => r_move rfl (c.p e5),
    Ob.gg 17 true rfl fun c hpc => r_move rfl (c.p e5),
    Ob.gg 17 true rfl fun c hpc => r_len rfl Try.underlying22 (c.m 20 rfl hpc) r0.isSl,
    Ob.gg 17 true rfl fun c hpc => r_sub rfl (c.m 21 rfl hpc) rfl (by have hq0 := bt (hpc.2); have hq1 := hpc.1; (try simp only [Bool.or_eq_false_iff, decide_eq_false_iff_not, Int.not_lt] at hq1); omega),
    Ob.gg 17 true rfl fun c hpc => r_indexAddr rfl Try.underlying22 Try.sizeOf45 (c.m 19 rfl hpc) r0.isSl (c.m 22 rfl hpc) (by have hq0 := bt (hpc.2); have hq1 := hpc.1; (try simp only [Bool.or_eq_false_iff, decide_eq_false_iff_not, Int.not_lt] at hq1); omega) (by have hq0 := bt (hpc.2); have hq1 := hpc.1; (try simp only [Bool.or_eq_false_iff, decide_eq_false_iff_not, Int.not_lt] at hq1); omega),
    Ob.gg 17 true rfl fun c hpc => r_fieldAddr rfl Try.underlying45 rfl rfl Try.sizeOf43 (c.m 23 rfl hpc),
    Ob.gg 17 true rfl fun c hpc => r_fieldAddr rfl Try.underlying43 rfl rfl Try.sizeOf3 (c.m 24 rfl hpc),
    Ob.gg 17 true rfl fun c hpc => r_load1 rfl Try.isAgg3 (c.m 25 rfl hpc) (by have h_ := ((c.io 0 rfl).1.sl).elem (j := 0) (nth_some (i := (((apS n (xs.take k)).1).length : Int) - 1) (by have hq0 := bt (hpc.2); have hq1 := hpc.1; (try simp only [Bool.or_eq_false_iff, decide_eq_false_iff_not, Int.not_lt] at hq1); omega) (by have hq0 := bt (hpc.2); have hq1 := hpc.1; (try simp only [Bool.or_eq_false_iff, decide_eq_false_iff_not, Int.not_lt] at hq1); omega)) rfl; rw [add_add] at h_; rw [add_add, add_add]; exact h_),
    Ob.gg 17 true rfl fun c hpc => r_eql rfl (c.m 18 rfl hpc) (c.m 26 rfl hpc),
    Ob.g 13 false rfl fun c hpc => r_and rfl (c.m 17 rfl hpc) (fun h => c.m 27 rfl (And.intro hpc h)),
    Ob.d fun c => r_or rfl (c.n 13 rfl) (fun h => c.m 28 rfl h), trivial⟩ ?_
   intro a9 w9 τ9 st9 f9
   obtain ⟨e0, e1, e4, e5, e6, e7, e8, e9, e10, e18, -⟩ := f9.ks [(0, _), (1, _), (4, _), (5, _), (6, _), (7, _), (8, _), (9, _), (10, _), (18, _)] ⟨e0, e1, e4, e5, e6, e7, e8, e9, e10, e18, trivial⟩
   have e66 : get a9 66 = (.bool (((decide (n < (apS n (xs.take k)).2.1 + (lowF ((nth xs ((k : Int))).1) 5) + (lowF ((nth xs ((k : Int))).2.1) 5))) || (decide ((apS n (xs.take k)).2.2 < (((nth xs ((k : Int))).2.2).size : Int)))) || ((decide (0 < (((apS n (xs.take k)).1).length : Int))) && (decide ((apS n (xs.take k)).2.1 + (lowF ((nth xs ((k : Int))).1) 5) = (nth ((apS n (xs.take k)).1) ((((apS n (xs.take k)).1).length : Int) - 1)).1))))) := f9.v 29 rfl
   replace r0 := f9.io 0 rfl
   clear f9
   show Code.wp _ _ _ a9 w9
   refine wp_cond_split (t := ((decide (n < (apS n (xs.take k)).2.1 + (lowF ((nth xs ((k : Int))).1) 5) + (lowF ((nth xs ((k : Int))).2.1) 5))) || (decide ((apS n (xs.take k)).2.2 < (((nth xs ((k : Int))).2.2).size : Int)))) || ((decide (0 < (((apS n (xs.take k)).1).length : Int))) && (decide ((apS n (xs.take k)).2.1 + (lowF ((nth xs ((k : Int))).1) 5) = (nth ((apS n (xs.take k)).1) ((((apS n (xs.take k)).1).length : Int) - 1)).1)))) e66 (fun hc2 => ?_) (fun hc2 => ?_)
   · have hd2 := hc2; try simp only [Bool.and_eq_true, Bool.or_eq_true, decide_eq_true_eq] at hd2
     refine wp_exit ?_
     repeat (with_reducible refine then_exit ?_)
     refine exit_here ?_
     show Code.wp _ _ _ a9 w9
     refine region_St (bf := [0, 1, 3]) (sp := [det _ 19 _, det _ 20 _, det _ 8 _]) [io r0] mixed st9 (by kernel_rfl) ⟨r0, trivial⟩
      ⟨Ob.d fun c => r_move rfl (c.p e8),
      Ob.d fun c => r_add rfl (c.n 0 rfl) rfl (by omega),
      Ob.d fun c => r_assign rfl (c.n 1 rfl), trivial⟩ ?_
     intro a10 w10 τ10 st10 f10
     obtain ⟨e0, e1, e4, e5, e6, e7, e9, e10, e18, e66, -⟩ := f10.ks [(0, _), (1, _), (4, _), (5, _), (6, _), (7, _), (9, _), (10, _), (18, _), (66, _)] ⟨e0, e1, e4, e5, e6, e7, e9, e10, e18, e66, trivial⟩
     have e8 : get a10 8 = (.int .i64 ((k : Int) + 1)) := f10.v 2 rfl
     replace r0 := f10.io 0 rfl
     clear f10
     refine ⟨⟨k + 1, u, τ10, ?_, ?_, st10, e5, (e6.trans (int_eq (by first | omega | rfl | (rw [apS_skip (by omega) (by assumption)]) | (rw [apS_put (by omega) (by assumption)])))), (e7.trans (int_eq (by first | omega | rfl | (rw [apS_skip (by omega) (by assumption)]) | (rw [apS_put (by omega) (by assumption)])))), (e8.trans (int_eq (by first | omega | rfl | (rw [apS_skip (by omega) (by assumption)]) | (rw [apS_put (by omega) (by assumption)])))), e0, e1, e4, ?_⟩, ?_⟩
     · omega
     · omega
     · exact r0.cast (by first | (rw [apS_skip (by omega) (by assumption)]) | (rw [apS_put (by omega) (by assumption)]))
     · simp only [m8, e8, intOf]; omega
   have hd2 := hc2; try simp only [Bool.and_eq_false_iff, Bool.or_eq_false_iff, decide_eq_false_iff_not, Int.not_lt] at hd2
   refine wp_skip ?_
   show Code.wp _ _ _ a9 w9
   refine wp_seq ?_
   refine region_St (bf := [0, 0, 0, 6, 14, 30, 62, 127, 255]) (sp := [det _ 67 _, det _ 68 _, det _ 69 _, det _ 70 _, det _ 71 _, det _ 72 _, det _ 73 _, det _ 74 _, det _ 7 _]) [io r0] mixed st9 (by kernel_rfl) ⟨r0, trivial⟩
    ⟨Ob.d fun c => r_move rfl (c.p e7),
    Ob.d fun c => r_move rfl (c.p e1),
    Ob.d fun c => r_move rfl (c.p e8),
    Ob.d fun c => r_indexAddr rfl Try.underlying38 Try.sizeOf68 (c.n 1 rfl) hS.sl (c.n 2 rfl) (by omega) (by omega),
    Ob.d fun c => r_fieldAddr rfl Try.underlying68 rfl rfl Try.sizeOf9 (c.n 3 rfl),
    Ob.d fun c => r_load1 rfl Try.isAgg9 (c.n 4 rfl) (((hS.at (st9.ext.trans c.J.ext))).elem (j := 2) (nth_some (i := (k : Int)) (by omega) (by omega)) rfl),
    Ob.d fun c => r_lenS rfl Try.underlying9 (c.n 5 rfl),
    Ob.d fun c => r_sub rfl (c.n 0 rfl) (c.n 6 rfl) (by omega),
    Ob.d fun c => r_assign rfl (c.n 7 rfl), trivial⟩ ?_
   intro a11 w11 τ11 st11 f11
   obtain ⟨e0, e1, e4, e5, e6, e8, e9, e10, e18, e66, -⟩ := f11.ks [(0, _), (1, _), (4, _), (5, _), (6, _), (8, _), (9, _), (10, _), (18, _), (66, _)] ⟨e0, e1, e4, e5, e6, e8, e9, e10, e18, e66, trivial⟩
   have e7 : get a11 7 = (.int .i64 ((apS n (xs.take k)).2.2 - (((nth xs ((k : Int))).2.2).size : Int))) := f11.v 8 rfl
   replace r0 := f11.io 0 rfl
   clear f11
   show Code.wp _ _ _ a11 w11
   refine wp_seq ?_
   refine region_St (bf := [0, 0, 0, 6, 0, 0, 48, 112, 240, 510, 1022, 2047, 4095]) (sp := [det _ 75 _, det _ 76 _, det _ 77 _, det _ 78 _, det _ 79 _, det _ 80 _, det _ 81 _, det _ 82 _, det _ 83 _, det _ 84 _, own EditE 45 _ 1 85 ([((apS n (xs.take k)).2.1 + (lowF ((nth xs ((k : Int))).1) 5), (apS n (xs.take k)).2.1 + (lowF ((nth xs ((k : Int))).1) 5) + (lowF ((nth xs ((k : Int))).2.1) 5), (nth xs ((k : Int))).2.2)]), own _ _ _ 0 86 _, own _ _ _ 0 5 _]) [io r0] mixed st11 (by kernel_rfl) ⟨r0, trivial⟩
    ⟨Ob.d fun c => r_move rfl (c.p e5),
    Ob.d fun c => r_move rfl (c.p e9),
    Ob.d fun c => r_move rfl (c.p e10),
    Ob.d fun c => r_build (cells := #[(.int .i64 ((apS n (xs.take k)).2.1 + (lowF ((nth xs ((k : Int))).1) 5))), (.int .i64 ((apS n (xs.take k)).2.1 + (lowF ((nth xs ((k : Int))).1) 5) + (lowF ((nth xs ((k : Int))).2.1) 5)))]) rfl Try.underlying43 Try.zeroValue43 (pl := #[(0, 1), (1, 1)]) (fun w_ => by simp [Try.sizeOf3]) (fill2 (c.n 1 rfl) (c.n 2 rfl) rfl),
    Ob.d fun c => r_move rfl (c.p e1),
    Ob.d fun c => r_move rfl (c.p e8),
    Ob.d fun c => r_indexAddr rfl Try.underlying38 Try.sizeOf68 (c.n 4 rfl) hS.sl (c.n 5 rfl) (by omega) (by omega),
    Ob.d fun c => r_fieldAddr rfl Try.underlying68 rfl rfl Try.sizeOf9 (c.n 6 rfl),
    Ob.d fun c => r_load1 rfl Try.isAgg9 (c.n 7 rfl) (((hS.at (st11.ext.trans c.J.ext))).elem (j := 2) (nth_some (i := (k : Int)) (by omega) (by omega)) rfl),
    Ob.d fun c => r_build (cells := #[(.int .i64 ((apS n (xs.take k)).2.1 + (lowF ((nth xs ((k : Int))).1) 5))), (.int .i64 ((apS n (xs.take k)).2.1 + (lowF ((nth xs ((k : Int))).1) 5) + (lowF ((nth xs ((k : Int))).2.1) 5))), (.string ((nth xs ((k : Int))).2.2))]) rfl Try.underlying45 Try.zeroValue45 (pl := #[(0, 2), (2, 1)]) (fun w_ => by simp [Try.sizeOf43, Try.sizeOf9]) (fill2 (c.n 3 rfl) (c.n 8 rfl) rfl),
    Ob.buildSlice (cells := #[(.int .i64 ((apS n (xs.take k)).2.1 + (lowF ((nth xs ((k : Int))).1) 5))), (.int .i64 ((apS n (xs.take k)).2.1 + (lowF ((nth xs ((k : Int))).1) 5) + (lowF ((nth xs ((k : Int))).2.1) 5))), (.string ((nth xs ((k : Int))).2.2))]) rfl rfl rfl rfl Try.underlying22 Try.sizeOf45 Try.zeroValue45 rfl (by decide) (by decide) (fun _ _ _ _ c => fill1 (c.n 9 rfl) (by kernel_rfl)) rfl,
    Ob.append (t0 := 5) rfl rfl rfl rfl Try.underlying22 (i := Try.t45) rfl rfl rfl rfl (by simp only [maxLen]; (try simp); omega) (by show _ * 32 ≤ _; (try simp); omega) (fun _ _ _ _ c => ⟨c.ip 0 rfl e5, c.sm (c.n 0 rfl) e5, ⟨_, rfl, (c.ro 10 rfl).1.sl⟩⟩),
    Ob.moveT (t0 := 86) rfl rfl rfl rfl rfl (.inr rfl) (fun _ _ _ _ c => ⟨c.ro 11 rfl, rfl⟩), trivial⟩ ?_
   intro a12 w12 τ12 st12 f12
   obtain ⟨b12x85, e85⟩ : ∃ b, get a12 85 = b := ⟨_, rfl⟩
   obtain ⟨b12x5, e5⟩ : ∃ b, get a12 5 = b := ⟨_, rfl⟩
   obtain ⟨e0, e1, e4, e6, e7, e8, e9, e10, e18, e66, -⟩ := f12.ks [(0, _), (1, _), (4, _), (6, _), (7, _), (8, _), (9, _), (10, _), (18, _), (66, _)] ⟨e0, e1, e4, e6, e7, e8, e9, e10, e18, e66, trivial⟩
   replace r0 : ownR EditE 45 (((apS n (xs.take k)).1) ++ ([((apS n (xs.take k)).2.1 + (lowF ((nth xs ((k : Int))).1) 5), (apS n (xs.take k)).2.1 + (lowF ((nth xs ((k : Int))).1) 5) + (lowF ((nth xs ((k : Int))).2.1) 5), (nth xs ((k : Int))).2.2)])) (τ12 0) b12x5 w12 := f12.ro 12 e5 rfl
   have r1 : ownR EditE 45 ([((apS n (xs.take k)).2.1 + (lowF ((nth xs ((k : Int))).1) 5), (apS n (xs.take k)).2.1 + (lowF ((nth xs ((k : Int))).1) 5) + (lowF ((nth xs ((k : Int))).2.1) 5), (nth xs ((k : Int))).2.2)]) (τ12 1) b12x85 w12 := f12.ro 10 e85 rfl
   clear f12
   show Code.wp _ _ _ a12 w12
   refine region_St (bf := [0, 1]) (sp := [det _ 87 _, det _ 6 _]) [io r0, io r1] mixed st12 (by kernel_rfl) ⟨r0, r1, trivial⟩
    ⟨Ob.d fun c => r_move rfl (c.p e10),
    Ob.d fun c => r_assign rfl (c.n 0 rfl), trivial⟩ ?_
   intro a13 w13 τ13 st13 f13
   obtain ⟨e0, e1, e4, e5, e7, e8, e9, e10, e18, e66, -⟩ := f13.ks [(0, _), (1, _), (4, _), (5, _), (7, _), (8, _), (9, _), (10, _), (18, _), (66, _)] ⟨e0, e1, e4, e5, e7, e8, e9, e10, e18, e66, trivial⟩
   have e6 : get a13 6 = (.int .i64 ((apS n (xs.take k)).2.1 + (lowF ((nth xs ((k : Int))).1) 5) + (lowF ((nth xs ((k : Int))).2.1) 5))) := f13.v 1 rfl
   replace r0 := f13.io 0 rfl
   replace r1 := f13.io 1 rfl
   clear f13
   show _
   show Code.wp _ _ _ a13 w13
   refine region_St (bf := [0, 1, 3]) (sp := [det _ 19 _, det _ 20 _, det _ 8 _]) [io r0, io r1] mixed st13 (by kernel_rfl) ⟨r0, r1, trivial⟩
    ⟨Ob.d fun c => r_move rfl (c.p e8),
    Ob.d fun c => r_add rfl (c.n 0 rfl) rfl (by omega),
    Ob.d fun c => r_assign rfl (c.n 1 rfl), trivial⟩ ?_
   intro a14 w14 τ14 st14 f14
   obtain ⟨e0, e1, e4, e5, e6, e7, e9, e10, e18, e66, -⟩ := f14.ks [(0, _), (1, _), (4, _), (5, _), (6, _), (7, _), (9, _), (10, _), (18, _), (66, _)] ⟨e0, e1, e4, e5, e6, e7, e9, e10, e18, e66, trivial⟩
   have e8 : get a14 8 = (.int .i64 ((k : Int) + 1)) := f14.v 2 rfl
   replace r0 := f14.io 0 rfl
   replace r1 := f14.io 1 rfl
   clear f14
   refine ⟨⟨k + 1, b12x5, τ14, ?_, ?_, st14, e5, (e6.trans (int_eq (by first | omega | rfl | (rw [apS_skip (by omega) (by assumption)]) | (rw [apS_put (by omega) (by assumption)])))), (e7.trans (int_eq (by first | omega | rfl | (rw [apS_skip (by omega) (by assumption)]) | (rw [apS_put (by omega) (by assumption)])))), (e8.trans (int_eq (by first | omega | rfl | (rw [apS_skip (by omega) (by assumption)]) | (rw [apS_put (by omega) (by assumption)])))), e0, e1, e4, ?_⟩, ?_⟩
   · omega
   · omega
   · exact r0.cast (by first | (rw [apS_skip (by omega) (by assumption)]) | (rw [apS_put (by omega) (by assumption)]))
   · simp only [m8, e8, intOf]; omega
 try simp only [Bool.and_eq_false_iff, decide_eq_false_iff_not, Int.not_lt] at hc1
 refine wp_exit ?_
 repeat (with_reducible refine then_exit ?_)
 refine exit_here ?_
 show Code.wp _ _ _ a6 w6
 refine wp_seq ?_
 refine region_St (bf := [0, 1]) (sp := [det _ 88 _, det _ 4 _]) [io r0] mixed st6 (by kernel_rfl) ⟨r0, trivial⟩
  ⟨Ob.d fun c => r_move rfl (c.p e5),
  Ob.d fun c => r_assign rfl (c.n 0 rfl), trivial⟩ ?_
 intro a15 w15 τ15 st15 f15
 have e4 : get a15 4 = u := f15.v 1 rfl
 replace r0 := f15.io 0 rfl
 clear f15
 show Code.wp _ _ _ a15 w15
 refine wp_ret ?_
 repeat (first | with_reducible refine then_ret ?_ | with_reducible refine block_ret ?_)
 refine ret1 (fn := Try.f24) rfl st15.defers e4 ?_
 replace r0 := r0.cast (show apF n xs = _ from by exact apF_end q1 (by omega))
 exact ⟨_, rfl, st15.ext0, r0.1, fun g_ h_ => (st15.bnd _ g_ (r0.2 g_ h_)).1⟩

set_option maxRecDepth 100000 in
theorem turned_c (v : Value) (xs : List (Int × Int × ByteArray)) (b : Int) (w : World) (hS : SlT EditE w v xs) (hbig : xs.length ≤ 1000000) : Calls Try.prog 25 #[v, (.int .i64 (b))] w (fun e w' => ∃ v', e = .returned v' ∧ Ext none' w w' ∧ NewT EditE 45 w w' v' (rotE xs b)) := by
 refine enter (n := 20) Try.func25 rfl rfl (Nat.le_of_ble_eq_true rfl) ?_
 intro a0 τ0 ha st0
 have e0 : get a0 0 = v := ha 0 _ rfl
 have e1 : get a0 1 = (.int .i64 (b)) := ha 1 _ rfl
 clear ha
 have hle := hS.le
 have hlow := low_range b ((xs.length : Int) + 1) (by omega) (by omega)
 refine wp_seq ?_
 refine region_St (bf := [0]) (sp := [det _ 4 _]) [] mixed st0 (by kernel_rfl) trivial
  ⟨Ob.d fun c => r_assign rfl rfl, trivial⟩ ?_
 intro a1 w1 τ1 st1 f1
 obtain ⟨e0, e1, -⟩ := f1.ks [(0, _), (1, _)] ⟨e0, e1, trivial⟩
 have e4 : get a1 4 = (.slice none 0 0) := f1.v 0 rfl
 clear f1
 show Code.wp _ _ _ a1 w1
 refine wp_seq ?_
 refine region_St (bf := [0, 0, 2, 6, 15, 31]) (sp := [det _ 6 _, det _ 7 _, det _ 8 _, det _ 9 _, det _ 10 _, det _ 5 _]) [] mixed st1 (by kernel_rfl) trivial
  ⟨Ob.d fun c => r_move rfl (c.p e1),
  Ob.d fun c => r_move rfl (c.p e0),
  Ob.d fun c => r_len rfl Try.underlying22 (c.n 1 rfl) hS.sl,
  Ob.d fun c => r_add rfl (c.n 2 rfl) rfl (by first | omega | (simp only [List.length_append, List.length_take, List.length_drop, List.length_nil]; omega)),
  Ob.c fun c => ⟨_, _, (e_call2 rfl rfl Try.call28 (c.n 0 rfl) (c.n 3 rfl)), low_c b ((xs.length : Int) + 1) _ (by first | omega | (simp only [List.length_append, List.length_take, List.length_drop, List.length_nil]; omega)) (by first | omega | (simp only [List.length_append, List.length_take, List.length_drop, List.length_nil]; omega))⟩,
  Ob.d fun c => r_assign rfl (c.n 4 rfl), trivial⟩ ?_
 intro a2 w2 τ2 st2 f2
 obtain ⟨e0, e4, -⟩ := f2.ks [(0, _), (4, _)] ⟨e0, e4, trivial⟩
 have e5 : get a2 5 = (.int .i64 (lowF b ((xs.length : Int) + 1))) := f2.v 5 rfl
 clear f2
 show Code.wp _ _ _ a2 w2
 refine wp_seq ?_
 refine region_St (bf := [0, 0, 0, 6, 15, 0, 0, 96, 255, 511]) (sp := [own EditE 45 _ 0 11 ([]), det _ 12 _, det _ 13 _, det _ 14 _, own _ _ _ 0 15 _, det _ 16 _, det _ 17 _, det _ 18 _, own _ _ _ 0 19 _, own _ _ _ 0 4 _]) [] mixed st2 (by kernel_rfl) trivial
  ⟨Ob.buildEmpty rfl rfl rfl rfl Try.underlying22 Try.sizeOf45,
  Ob.d fun c => r_move rfl (c.p e0),
  Ob.d fun c => r_move rfl (c.p e5),
  Ob.d fun c => r_sliceLo rfl Try.underlying22 Try.sizeOf45 (c.n 1 rfl) hS.sl (c.n 2 rfl) (by first | omega | (simp only [List.length_append, List.length_take, List.length_drop, List.length_nil]; omega)) (by first | omega | (simp only [List.length_append, List.length_take, List.length_drop, List.length_nil]; omega)),
  Ob.append (t0 := 11) rfl rfl rfl rfl Try.underlying22 (i := Try.t45) rfl rfl rfl rfl (by simp only [maxLen]; (try simp); omega) (by show _ * 32 ≤ _; (try simp); omega) (fun _ _ _ _ c => ⟨c.ro 0 rfl, rfl, ⟨_, (c.n 3 rfl), ((hS.at (st2.ext.trans c.J.ext)).sub (lo := (lowF b ((xs.length : Int) + 1)).toNat) (hi := xs.length) (by first | omega | (simp only [List.length_append, List.length_take, List.length_drop, List.length_nil]; omega)) (by first | omega | (simp only [List.length_append, List.length_take, List.length_drop, List.length_nil]; omega)))⟩⟩),
  Ob.d fun c => r_move rfl (c.p e0),
  Ob.d fun c => r_move rfl (c.p e5),
  Ob.d fun c => r_sliceHi rfl Try.underlying22 Try.sizeOf45 (c.n 5 rfl) hS.sl (c.n 6 rfl) (by first | omega | (simp only [List.length_append, List.length_take, List.length_drop, List.length_nil]; omega)) (by first | omega | (simp only [List.length_append, List.length_take, List.length_drop, List.length_nil]; omega)),
  Ob.append (t0 := 15) rfl rfl rfl rfl Try.underlying22 (i := Try.t45) rfl rfl rfl rfl (by simp only [maxLen]; (try simp); omega) (by show _ * 32 ≤ _; (try simp); omega) (fun _ _ _ _ c => ⟨c.ro 4 rfl, rfl, ⟨_, (c.n 7 rfl), ((hS.at (st2.ext.trans c.J.ext)).sub (lo := 0) (hi := (lowF b ((xs.length : Int) + 1)).toNat) (by first | omega | (simp only [List.length_append, List.length_take, List.length_drop, List.length_nil]; omega)) (by first | omega | (simp only [List.length_append, List.length_take, List.length_drop, List.length_nil]; omega)))⟩⟩),
  Ob.moveT (t0 := 19) rfl rfl rfl rfl rfl (.inr rfl) (fun _ _ _ _ c => ⟨c.ro 8 rfl, rfl⟩), trivial⟩ ?_
 intro a3 w3 τ3 st3 f3
 obtain ⟨b3x4, e4⟩ : ∃ b, get a3 4 = b := ⟨_, rfl⟩
 have r0 : ownR EditE 45 ((([]) ++ ((xs.drop ((lowF b ((xs.length : Int) + 1)).toNat)).take (xs.length - ((lowF b ((xs.length : Int) + 1)).toNat)))) ++ ((xs.drop 0).take (((lowF b ((xs.length : Int) + 1)).toNat) - 0))) (τ3 0) b3x4 w3 := f3.ro 9 e4 rfl
 clear f3
 show Code.wp _ _ _ a3 w3
 refine wp_ret ?_
 repeat (first | with_reducible refine then_ret ?_ | with_reducible refine block_ret ?_)
 refine ret1 (fn := Try.f25) rfl st3.defers e4 ?_
 replace r0 := r0.cast (show rotE xs b = _ from by rfl)
 exact ⟨_, rfl, st3.ext0, r0.1, fun g_ h_ => (st3.bnd _ g_ (r0.2 g_ h_)).1⟩

set_option maxRecDepth 100000 in
theorem first_c  (w : World) : Calls Try.prog 31 #[] w (fun e w' => ∃ v', e = .returned v' ∧ Ext none' w w' ∧ NewT EditE 45 w w' v' ([((0 : Int), (1 : Int), (⟨#[120]⟩ : ByteArray)), (2, 2, ⟨#[121, 122]⟩)])) := by
 refine enter (n := 6) Try.func31 rfl rfl (Nat.le_of_ble_eq_true rfl) ?_
 intro a0 τ0 ha st0
 clear ha
 refine wp_seq ?_
 refine region_St (bf := [0]) (sp := [det _ 0 _]) [] mixed st0 (by kernel_rfl) trivial
  ⟨Ob.d fun c => r_assign rfl rfl, trivial⟩ ?_
 intro a1 w1 τ1 st1 f1
 have e0 : get a1 0 = (.slice none 0 0) := f1.v 0 rfl
 clear f1
 show Code.wp _ _ _ a1 w1
 refine wp_seq ?_
 refine region_St (bf := [0, 1, 0, 4, 15, 31]) (sp := [det _ 1 _, det _ 2 _, det _ 3 _, det _ 4 _, own EditE 45 _ 0 5 ([(0, 1, (⟨#[120]⟩ : ByteArray)), (2, 2, (⟨#[121, 122]⟩ : ByteArray))]), own _ _ _ 0 0 _]) [] mixed st1 (by kernel_rfl) trivial
  ⟨Ob.d fun c => r_build (cells := #[(.int .i64 (0)), (.int .i64 (1))]) rfl Try.underlying43 Try.zeroValue43 (pl := #[(0, 1), (1, 1)]) (fun w_ => by simp [Try.sizeOf3]) (fill2 rfl rfl rfl),
  Ob.d fun c => r_build (cells := #[(.int .i64 (0)), (.int .i64 (1)), (.string ((⟨#[120]⟩ : ByteArray)))]) rfl Try.underlying45 Try.zeroValue45 (pl := #[(0, 2), (2, 1)]) (fun w_ => by simp [Try.sizeOf43, Try.sizeOf9]) (fill2 (c.n 0 rfl) rfl rfl),
  Ob.d fun c => r_build (cells := #[(.int .i64 (2)), (.int .i64 (2))]) rfl Try.underlying43 Try.zeroValue43 (pl := #[(0, 1), (1, 1)]) (fun w_ => by simp [Try.sizeOf3]) (fill2 rfl rfl rfl),
  Ob.d fun c => r_build (cells := #[(.int .i64 (2)), (.int .i64 (2)), (.string ((⟨#[121, 122]⟩ : ByteArray)))]) rfl Try.underlying45 Try.zeroValue45 (pl := #[(0, 2), (2, 1)]) (fun w_ => by simp [Try.sizeOf43, Try.sizeOf9]) (fill2 (c.n 2 rfl) rfl rfl),
  Ob.buildSlice (cells := #[(.int .i64 (0)), (.int .i64 (1)), (.string ((⟨#[120]⟩ : ByteArray))), (.int .i64 (2)), (.int .i64 (2)), (.string ((⟨#[121, 122]⟩ : ByteArray)))]) rfl rfl rfl rfl Try.underlying22 Try.sizeOf45 Try.zeroValue45 rfl (by decide) (by decide) (fun _ _ _ _ c => fill2 (c.n 1 rfl) (c.n 3 rfl) (by kernel_rfl)) rfl,
  Ob.moveT (t0 := 5) rfl rfl rfl rfl rfl (.inr rfl) (fun _ _ _ _ c => ⟨c.ro 4 rfl, rfl⟩), trivial⟩ ?_
 intro a2 w2 τ2 st2 f2
 obtain ⟨b2x0, e0⟩ : ∃ b, get a2 0 = b := ⟨_, rfl⟩
 have r0 : ownR EditE 45 ([(0, 1, (⟨#[120]⟩ : ByteArray)), (2, 2, (⟨#[121, 122]⟩ : ByteArray))]) (τ2 0) b2x0 w2 := f2.ro 5 e0 rfl
 clear f2
 show Code.wp _ _ _ a2 w2
 refine wp_ret ?_
 repeat (first | with_reducible refine then_ret ?_ | with_reducible refine block_ret ?_)
 refine ret1 (fn := Try.f31) rfl st2.defers e0 ?_
 exact ⟨_, rfl, st2.ext0, r0.1, fun g_ h_ => (st2.bnd _ g_ (r0.2 g_ h_)).1⟩

set_option maxRecDepth 100000 in
theorem awake_c  (w : World) : Calls Try.prog 14 #[] w (fun e w' => e = .returned (.bool (true)) ∧ Ext none' w w') := by
 refine enter (n := 61) Try.func14 rfl rfl (Nat.le_of_ble_eq_true rfl) ?_
 intro a0 τ0 ha st0
 clear ha
 refine wp_seq ?_
 refine region_St (bf := [0]) (sp := [det _ 0 _]) [] mixed st0 (by kernel_rfl) trivial
  ⟨Ob.d fun c => r_assign rfl rfl, trivial⟩ ?_
 intro a1 w1 τ1 st1 f1
 have e0 : get a1 0 = (.bool (false)) := f1.v 0 rfl
 clear f1
 show Code.wp _ _ _ a1 w1
 refine wp_seq ?_
 refine region_St (bf := [0, 1]) (sp := [own _ _ _ 0 7 _, own _ _ _ 0 1 _]) [] mixed st1 (by kernel_rfl) trivial
  ⟨Ob.callOwn rfl rfl rfl (fun _ a_ _ _ c => ⟨_, _, (e_call0 rfl rfl Try.call31), first_c _⟩),
  Ob.moveT (t0 := 7) rfl rfl rfl rfl rfl (.inr rfl) (fun _ _ _ _ c => ⟨c.ro 0 rfl, rfl⟩), trivial⟩ ?_
 intro a2 w2 τ2 st2 f2
 obtain ⟨b2x1, e1⟩ : ∃ b, get a2 1 = b := ⟨_, rfl⟩
 obtain ⟨e0, -⟩ := f2.ks [(0, _)] ⟨e0, trivial⟩
 have r0 : ownR EditE 45 ([((0 : Int), (1 : Int), (⟨#[120]⟩ : ByteArray)), (2, 2, ⟨#[121, 122]⟩)]) (τ2 0) b2x1 w2 := f2.ro 1 e1 rfl
 clear f2
 show Code.wp _ _ _ a2 w2
 refine wp_seq ?_
 refine region_St (bf := [0, 1, 3, 7, 7, 15, 63]) (sp := [det _ 9 _, det _ 10 _, det _ 8 _, det _ 11 _, det _ 12 _, det _ 2 _, det _ 3 _]) [io r0] mixed st2 (by kernel_rfl) ⟨r0, trivial⟩
  ⟨Ob.d fun c => r_move rfl (c.p e1),
  Ob.c fun c => ⟨_, _, (e_call2 rfl rfl Try.call15 rfl (c.n 0 rfl)), applyE_c (⟨#[97, 98, 99, 100]⟩ : ByteArray) b2x1 ([((0 : Int), (1 : Int), (⟨#[120]⟩ : ByteArray)), (2, 2, ⟨#[121, 122]⟩)]) _ (c.io 0 rfl).1.sl (by first | omega | (simp only [List.length_cons, List.length_nil]; omega) | decide | (decide +kernel)) (by first | omega | (simp only [List.length_cons, List.length_nil]; omega) | decide | (decide +kernel)) (by first | omega | (simp only [List.length_cons, List.length_nil]; omega) | decide | (decide +kernel))⟩,
  Ob.d fun c => r_move rfl (c.n 1 rfl),
  Ob.d fun c => r_extract rfl (c.n 2 rfl) rfl,
  Ob.d fun c => r_extract rfl (c.n 2 rfl) rfl,
  Ob.d fun c => r_assign rfl (c.n 3 rfl),
  Ob.d fun c => r_assign rfl (c.n 4 rfl), trivial⟩ ?_
 intro a3 w3 τ3 st3 f3
 obtain ⟨e0, e1, -⟩ := f3.ks [(0, _), (1, _)] ⟨e0, e1, trivial⟩
 have e2 : get a3 2 = (.string (applyF (⟨#[97, 98, 99, 100]⟩ : ByteArray) ([((0 : Int), (1 : Int), (⟨#[120]⟩ : ByteArray)), (2, 2, ⟨#[121, 122]⟩)]))) := f3.v 5 rfl
 have e3 : get a3 3 = (.int .i64 (mayEd ((⟨#[97, 98, 99, 100]⟩ : ByteArray).size : Int) ([((0 : Int), (1 : Int), (⟨#[120]⟩ : ByteArray)), (2, 2, ⟨#[121, 122]⟩)]))) := f3.v 6 rfl
 replace r0 := f3.io 0 rfl
 clear f3
 replace e2 := e2.trans (congrArg Value.string (show applyF (⟨#[97, 98, 99, 100]⟩ : ByteArray) ([((0 : Int), (1 : Int), (⟨#[120]⟩ : ByteArray)), (2, 2, ⟨#[121, 122]⟩)]) = (⟨#[120, 98, 121, 122, 99, 100]⟩ : ByteArray) from by decide +kernel))
 replace e3 := e3.trans (int_eq (show mayEd ((⟨#[97, 98, 99, 100]⟩ : ByteArray).size : Int) ([((0 : Int), (1 : Int), (⟨#[120]⟩ : ByteArray)), (2, 2, ⟨#[121, 122]⟩)]) = (0 : Int) from by decide +kernel))
 show Code.wp _ _ _ a3 w3
 refine wp_seq ?_
 refine region_St (bf := [0, 1, 3, 7, 7, 15, 63]) (sp := [det _ 14 _, tup _ _ _ 1 15 _ _, tup _ _ _ 1 13 _ _, own _ _ _ 1 16 _, det _ 17 _, own _ _ _ 1 4 _, det _ 5 _]) [io r0] mixed st3 (by kernel_rfl) ⟨r0, trivial⟩
  ⟨Ob.d fun c => r_move rfl (c.p e1),
  Ob.callTup rfl rfl rfl (fun _ a_ _ _ c => ⟨_, _, (e_call2 rfl rfl Try.call17 rfl (c.n 0 rfl)), backE_c (⟨#[97, 98, 99, 100]⟩ : ByteArray) b2x1 ([((0 : Int), (1 : Int), (⟨#[120]⟩ : ByteArray)), (2, 2, ⟨#[121, 122]⟩)]) _ (c.io 0 rfl).1.sl (by first | omega | (simp only [List.length_cons, List.length_nil]; omega) | decide | (decide +kernel)) (by first | omega | (simp only [List.length_cons, List.length_nil]; omega) | decide | (decide +kernel)) (by first | omega | (simp only [List.length_cons, List.length_nil]; omega) | decide | (decide +kernel))⟩),
  Ob.moveT (t0 := 15) rfl rfl rfl rfl rfl (.inl rfl) (fun _ _ _ _ c => ⟨c.rtup 1 rfl rfl (by kernel_rfl), rfl⟩),
  Ob.part0 (t0 := 13) (k := (.int .i64 (mayEd ((⟨#[97, 98, 99, 100]⟩ : ByteArray).size : Int) ([((0 : Int), (1 : Int), (⟨#[120]⟩ : ByteArray)), (2, 2, ⟨#[121, 122]⟩)])))) rfl rfl rfl rfl (fun _ _ _ _ c => c.rtup 2 rfl rfl (by kernel_rfl)),
  Ob.d fun c => c.part1 2 rfl rfl rfl,
  Ob.moveT (t0 := 16) rfl rfl rfl rfl rfl (.inr rfl) (fun _ _ _ _ c => ⟨c.ro 3 rfl, rfl⟩),
  Ob.d fun c => r_assign rfl (c.n 4 rfl), trivial⟩ ?_
 intro a4 w4 τ4 st4 f4
 obtain ⟨b4x4, e4⟩ : ∃ b, get a4 4 = b := ⟨_, rfl⟩
 obtain ⟨e0, e1, e2, e3, -⟩ := f4.ks [(0, _), (1, _), (2, _), (3, _)] ⟨e0, e1, e2, e3, trivial⟩
 have e5 : get a4 5 = (.int .i64 (mayEd ((⟨#[97, 98, 99, 100]⟩ : ByteArray).size : Int) ([((0 : Int), (1 : Int), (⟨#[120]⟩ : ByteArray)), (2, 2, ⟨#[121, 122]⟩)]))) := f4.v 6 rfl
 replace r0 := f4.io 0 rfl
 have r1 : ownR EditE 45 (backF (⟨#[97, 98, 99, 100]⟩ : ByteArray) ([((0 : Int), (1 : Int), (⟨#[120]⟩ : ByteArray)), (2, 2, ⟨#[121, 122]⟩)])) (τ4 1) b4x4 w4 := f4.ro 5 e4 rfl
 clear f4
 replace r1 := r1.cast (show [((0 : Int), (1 : Int), (⟨#[97]⟩ : ByteArray)), (2, 4, ⟨#[]⟩)] = backF (⟨#[97, 98, 99, 100]⟩ : ByteArray) ([((0 : Int), (1 : Int), (⟨#[120]⟩ : ByteArray)), (2, 2, ⟨#[121, 122]⟩)]) from by decide +kernel)
 replace e5 := e5.trans (int_eq (show mayEd ((⟨#[97, 98, 99, 100]⟩ : ByteArray).size : Int) ([((0 : Int), (1 : Int), (⟨#[120]⟩ : ByteArray)), (2, 2, ⟨#[121, 122]⟩)]) = (0 : Int) from by decide +kernel))
 show Code.wp _ _ _ a4 w4
 refine wp_seq ?_
 refine region_St (bf := [0, 1, 0, 7]) (sp := [det _ 18 _, det _ 19 _, box _ _ 2 6 [(.int .i64 (0)), (.int .i64 (0)), (.string ((⟨#[]⟩ : ByteArray)))], box _ _ 2 6 [(.int .i64 (2)), (.int .i64 (2)), (.string ((⟨#[121, 122]⟩ : ByteArray)))]]) [io r0, io r1] mixed st4 (by kernel_rfl) ⟨r0, r1, trivial⟩
  ⟨Ob.d fun c => r_build (cells := #[(.int .i64 (2)), (.int .i64 (2))]) rfl Try.underlying43 Try.zeroValue43 (pl := #[(0, 1), (1, 1)]) (fun w_ => by simp [Try.sizeOf3]) (fill2 rfl rfl rfl),
  Ob.d fun c => r_build (cells := #[(.int .i64 (2)), (.int .i64 (2)), (.string ((⟨#[121, 122]⟩ : ByteArray)))]) rfl Try.underlying45 Try.zeroValue45 (pl := #[(0, 2), (2, 1)]) (fun w_ => by simp [Try.sizeOf43, Try.sizeOf9]) (fill2 (c.n 0 rfl) rfl rfl),
  Ob.alloc rfl rfl rfl rfl Try.zeroValue45 rfl,
  Ob.storeBox (off := 0) (v := (.agg #[(.int .i64 (2)), (.int .i64 (2)), (.string ((⟨#[121, 122]⟩ : ByteArray)))])) rfl rfl rfl rfl Try.sizeOf45 (Nat.le_of_ble_eq_true rfl) (by simp [Value.cells, Value.oneCell']) rfl (fun _ _ _ _ c => ⟨c.rb 2 rfl, (c.rb 2 rfl).ptr, (c.n 1 rfl)⟩), trivial⟩ ?_
 intro a5 w5 τ5 st5 f5
 obtain ⟨b5x6, e6⟩ : ∃ b, get a5 6 = b := ⟨_, rfl⟩
 obtain ⟨e0, e1, e2, e3, e4, e5, -⟩ := f5.ks [(0, _), (1, _), (2, _), (3, _), (4, _), (5, _)] ⟨e0, e1, e2, e3, e4, e5, trivial⟩
 replace r0 := f5.io 0 rfl
 replace r1 := f5.io 1 rfl
 have r2 : boxR 45 [(.int .i64 (2)), (.int .i64 (2)), (.string ((⟨#[121, 122]⟩ : ByteArray)))] (τ5 2) b5x6 w5 := f5.rb 3 e6 rfl
 clear f5
 show Code.wp _ _ _ a5 w5
 refine wp_seq ?_
 refine region_St (bf := [0, 1, 3, 7, 15, 31, 63, 127, 255, 511, 1023, 2047, 4095, 8191, 16383, 32767, 65535, 131071, 262143, 524287, 1048575, 2097151, 4194303, 8388607, 16777215, 33554431, 67108863, 8388607, 268435455, 536870911, 1073741823, 2147483647, 4294967295, 8589934591, 17179869183, 34359738367, 68719476735, 137438953471, 274877906943, 549755813887, 1099511627775, 2199023255551]) (sp := [det _ 20 _, det _ 21 (.bool (true)), det _ 22 _, det _ 23 _, det _ 24 (.bool (true)), det _ 25 _, det _ 26 _, det _ 27 _, det _ 28 (.bool (true)), det _ 29 _, det _ 30 _, det _ 31 _, det _ 32 _, det _ 33 (.bool (true)), det _ 34 _, det _ 35 _, det _ 36 _, det _ 37 _, det _ 38 _, det _ 39 _, det _ 40 (.bool (true)), det _ 41 _, det _ 42 _, det _ 43 _, det _ 44 _, det _ 45 _, det _ 46 _, det _ 47 _, det _ 48 (.bool (true)), det _ 49 _, det _ 50 _, det _ 51 _, own EditE 45 _ 3 52 ([(2, 2, (⟨#[121, 122]⟩ : ByteArray))]), det _ 53 _, det _ 54 (.bool (true)), det _ 55 _, det _ 56 _, det _ 57 _, det _ 58 _, det _ 59 (.bool (true)), det _ 60 _, det _ 0 _]) [io r0, io r1, ib r2] mixed st5 (by kernel_rfl) ⟨r0, r1, r2, trivial⟩
  ⟨Ob.d fun c => r_move rfl (c.p e2),
  Ob.d (v := (.bool (true))) fun c => Runs.isB (b := eqT (⟨#[120, 98, 121, 122, 99, 100]⟩ : ByteArray) (⟨#[120, 98, 121, 122, 99, 100]⟩ : ByteArray)) (r_seql rfl (c.n 0 rfl) rfl) (by decide +kernel),
  Ob.d fun c => r_move rfl (c.n 1 rfl),
  Ob.lv 2 (Ob.d fun c => r_move rfl (c.p e3)),
  Ob.lv 2 (Ob.d (v := (.bool (true))) fun c => Runs.isB (b := decide (0 = 0)) (r_eql rfl (c.n 3 rfl) rfl) (by decide +kernel)),
  Ob.d fun c => r_pick rfl (c.n 2 rfl) (fun _ => c.n 4 rfl) (fun h => by cases h),
  Ob.d fun c => r_move rfl (c.n 5 rfl),
  Ob.lv 6 (Ob.d fun c => r_move rfl (c.p e5)),
  Ob.lv 6 (Ob.d (v := (.bool (true))) fun c => Runs.isB (b := decide (0 = 0)) (r_eql rfl (c.n 7 rfl) rfl) (by decide +kernel)),
  Ob.d fun c => r_pick rfl (c.n 6 rfl) (fun _ => c.n 8 rfl) (fun h => by cases h),
  Ob.d fun c => r_move rfl (c.n 9 rfl),
  Ob.lv 10 (Ob.d fun c => r_move rfl (c.p e4)),
  Ob.lv 10 (Ob.d fun c => r_len rfl Try.underlying22 (c.n 11 rfl) r1.isSl),
  Ob.lv 10 (Ob.d (v := (.bool (true))) fun c => Runs.isB (b := decide ((([((0 : Int), (1 : Int), (⟨#[97]⟩ : ByteArray)), (2, 4, ⟨#[]⟩)]).length : Int) = 2)) (r_eql rfl (c.n 12 rfl) rfl) (by decide +kernel)),
  Ob.d fun c => r_pick rfl (c.n 10 rfl) (fun _ => c.n 13 rfl) (fun h => by cases h),
  Ob.d fun c => r_move rfl (c.n 14 rfl),
  Ob.lv 15 (Ob.d fun c => r_move rfl (c.p e4)),
  Ob.lv 15 (Ob.d fun c => r_indexAddr rfl Try.underlying22 Try.sizeOf45 (c.n 16 rfl) r1.isSl rfl (by first | omega | (simp only [List.length_cons, List.length_nil]; omega) | decide | (decide +kernel)) (by first | omega | (simp only [List.length_cons, List.length_nil]; omega) | decide | (decide +kernel))),
  Ob.lv 15 (Ob.d fun c => r_fieldAddr rfl Try.underlying45 rfl rfl Try.sizeOf9 (c.n 17 rfl)),
  Ob.lv 15 (Ob.d fun c => r_load1 rfl Try.isAgg9 (c.n 18 rfl) (((c.io 1 rfl).1.sl).elem (j := 2) (nth_some (i := 0) (by first | omega | (simp only [List.length_cons, List.length_nil]; omega) | decide | (decide +kernel)) (by first | omega | (simp only [List.length_cons, List.length_nil]; omega) | decide | (decide +kernel))) rfl)),
  Ob.lv 15 (Ob.d (v := (.bool (true))) fun c => Runs.isB (b := eqT ((nth ([((0 : Int), (1 : Int), (⟨#[97]⟩ : ByteArray)), (2, 4, ⟨#[]⟩)]) (0)).2.2) (⟨#[97]⟩ : ByteArray)) (r_seql rfl (c.n 19 rfl) rfl) (by decide +kernel)),
  Ob.d fun c => r_pick rfl (c.n 15 rfl) (fun _ => c.n 20 rfl) (fun h => by cases h),
  Ob.d fun c => r_move rfl (c.n 21 rfl),
  Ob.lv 22 (Ob.d fun c => r_move rfl (c.p e4)),
  Ob.lv 22 (Ob.d fun c => r_indexAddr rfl Try.underlying22 Try.sizeOf45 (c.n 23 rfl) r1.isSl rfl (by first | omega | (simp only [List.length_cons, List.length_nil]; omega) | decide | (decide +kernel)) (by first | omega | (simp only [List.length_cons, List.length_nil]; omega) | decide | (decide +kernel))),
  Ob.lv 22 (Ob.d fun c => r_fieldAddr rfl Try.underlying45 rfl rfl Try.sizeOf43 (c.n 24 rfl)),
  Ob.lv 22 (Ob.d fun c => r_loadN (vs := [(.int .i64 ((nth ([((0 : Int), (1 : Int), (⟨#[97]⟩ : ByteArray)), (2, 4, ⟨#[]⟩)]) (1)).1)), (.int .i64 ((nth ([((0 : Int), (1 : Int), (⟨#[97]⟩ : ByteArray)), (2, 4, ⟨#[]⟩)]) (1)).2.1))]) rfl Try.isAgg43 Try.sizeOf43 (c.n 25 rfl) rfl (fun j_ u_ hj => by rw [add_add, add_add]; have h_ := ((c.io 1 rfl).1.sl).elem (j := 0 + j_) (nth_some (i := 1) (by first | omega | (simp only [List.length_cons, List.length_nil]; omega) | decide | (decide +kernel)) (by first | omega | (simp only [List.length_cons, List.length_nil]; omega) | decide | (decide +kernel))) (by revert hj; cases j_ with | zero => exact id | succ j_ => cases j_ with | zero => exact id | succ j_ => intro hj; simp at hj); rwa [add_add] at h_)),
  Ob.lv 22 (Ob.d fun c => r_build (cells := #[(.int .i64 (2)), (.int .i64 (4))]) rfl Try.underlying43 Try.zeroValue43 (pl := #[(0, 1), (1, 1)]) (fun w_ => by simp [Try.sizeOf3]) (fill2 rfl rfl rfl)),
  Ob.lv 22 (Ob.d (v := (.bool (true))) fun c => Runs.isB (b := spanB ((nth ([((0 : Int), (1 : Int), (⟨#[97]⟩ : ByteArray)), (2, 4, ⟨#[]⟩)]) (1)).1, (nth ([((0 : Int), (1 : Int), (⟨#[97]⟩ : ByteArray)), (2, 4, ⟨#[]⟩)]) (1)).2.1) (2, 4)) (span_eq rfl (c.n 26 rfl) (c.n 27 rfl)) (by decide +kernel)),
  Ob.d fun c => r_pick rfl (c.n 22 rfl) (fun _ => c.n 28 rfl) (fun h => by cases h),
  Ob.d fun c => r_move rfl (c.n 29 rfl),
  Ob.lv 30 (Ob.d fun c => r_loadN (vs := [(.int .i64 (2)), (.int .i64 (2)), (.string ((⟨#[121, 122]⟩ : ByteArray)))]) rfl Try.isAgg45 Try.sizeOf45 ((c.p e6).trans r2.ptr) rfl (fun _ _ hj => (c.ib 2 rfl).cell hj)),
  Ob.lv 30 (Ob.buildSlice (cells := #[(.int .i64 (2)), (.int .i64 (2)), (.string ((⟨#[121, 122]⟩ : ByteArray)))]) rfl rfl rfl rfl Try.underlying22 Try.sizeOf45 Try.zeroValue45 rfl (by decide) (by decide) (fun _ _ _ _ c => fill1 (c.n 31 rfl) (by kernel_rfl)) rfl),
  Ob.lv 30 (Ob.c fun c => ⟨_, _, (e_call3 rfl rfl Try.call27 rfl rfl (eval_tmp _ 52)), moveE_c 2 true _ ([(2, 2, (⟨#[121, 122]⟩ : ByteArray))]) _ (c.ro 32 rfl).1.sl (by first | omega | (simp only [List.length_cons, List.length_nil]; omega) | decide | (decide +kernel))⟩),
  Ob.lv 30 (Ob.d (v := (.bool (true))) fun c => Runs.isB (b := decide (moveW 2 true ([(2, 2, (⟨#[121, 122]⟩ : ByteArray))]) = 4)) (r_eql rfl (c.n 33 rfl) rfl) (by decide +kernel)),
  Ob.d fun c => r_pick rfl (c.n 30 rfl) (fun _ => c.n 34 rfl) (fun h => by cases h),
  Ob.d fun c => r_move rfl (c.n 35 rfl),
  Ob.lv 36 (Ob.d fun c => r_move rfl (c.p e1)),
  Ob.lv 36 (Ob.c fun c => ⟨_, _, (e_call2 rfl rfl Try.call26 rfl (c.n 37 rfl)), grown_c 4 b2x1 ([((0 : Int), (1 : Int), (⟨#[120]⟩ : ByteArray)), (2, 2, ⟨#[121, 122]⟩)]) _ (c.io 0 rfl).1.sl (by first | omega | (simp only [List.length_cons, List.length_nil]; omega) | decide | (decide +kernel))⟩),
  Ob.lv 36 (Ob.d (v := (.bool (true))) fun c => Runs.isB (b := decide (grownW 4 ([((0 : Int), (1 : Int), (⟨#[120]⟩ : ByteArray)), (2, 2, ⟨#[121, 122]⟩)]) = 6)) (r_eql rfl (c.n 38 rfl) rfl) (by decide +kernel)),
  Ob.d fun c => r_pick rfl (c.n 36 rfl) (fun _ => c.n 39 rfl) (fun h => by cases h),
  Ob.d fun c => r_assign rfl (c.n 40 rfl), trivial⟩ ?_
 intro a6 w6 τ6 st6 f6
 obtain ⟨b6x52, e52⟩ : ∃ b, get a6 52 = b := ⟨_, rfl⟩
 have e0 : get a6 0 = (.bool (true)) := f6.v 41 rfl
 clear f6
 show Code.wp _ _ _ a6 w6
 refine wp_ret ?_
 repeat (first | with_reducible refine then_ret ?_ | with_reducible refine block_ret ?_)
 refine ret1 (fn := Try.f14) rfl st6.defers e0 ?_
 exact ⟨rfl, st6.ext0⟩
end B
end Go.Proofs.Ytfkjmkngiiokmaa
