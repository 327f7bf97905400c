/-
  Walks, printed by a program (gen.py): SetD.
-/
import Derived.Test.YthaeepiichphjaaSetC
set_option linter.unusedSimpArgs false
set_option linter.unusedVariables false
namespace Go.Proofs.Ythaeepiichphjaa
namespace B
open Go.RowKit
open Srt
set_option maxRecDepth 100000 in
theorem rowStable_c (v : Value) (xs : List (ByteArray × ByteArray)) (w : World) (ho : OwnT RowE 36 w v xs) (hbig : xs.length ≤ 1000000000000) : Calls Try.prog 38 #[v, (.int .i64 ((xs.length : Int))), (.func (.func 28) #[] #[])] w (fun e w' => e = .returned (.tuple #[]) ∧ OwnT RowE 36 w' v (isort ltR xs) ∧ Ext (fun k => v.ownBlock = some k) w w') := by
 refine enterIn (fun g => v.ownBlock = some g) (fun g hg => ho.lt g hg) (n := 63) Try.func38 rfl rfl (Nat.le_of_ble_eq_true rfl) ?_
 intro a0 τ0 ha hτ st0
 have e0 : get a0 0 = v := ha 0 _ rfl
 have e1 : get a0 1 = (.int .i64 ((xs.length : Int))) := ha 1 _ rfl
 have e2 : get a0 2 = (.func (.func 28) #[] #[]) := ha 2 _ rfl
 clear ha
 have r0 : ownR RowE 36 xs (τ0 0) v w := ⟨ho, fun g hg => by rw [hτ]; exact hg⟩
 have hle := r0.le
 refine wp_seq ?_
 refine region_St (bf := [0]) (sp := [det _ 6 _]) [io r0] mixed st0 (by kernel_rfl) ⟨r0, trivial⟩
  ⟨Ob.d fun c => r_assign rfl rfl, trivial⟩ ?_
 intro a1 w1 τ1 st1 f1
 obtain ⟨e0, e1, e2, -⟩ := f1.ks [(0, _), (1, _), (2, _)] ⟨e0, e1, e2, trivial⟩
 have e6 : get a1 6 = (.int .i64 (20)) := f1.v 0 rfl
 replace r0 := f1.io 0 rfl
 clear f1
 show Code.wp _ _ _ a1 w1
 refine wp_seq ?_
 refine region_St (bf := [0, 0, 3]) (sp := [det _ 10 _, det _ 7 _, det _ 8 _]) [io r0] mixed st1 (by kernel_rfl) ⟨r0, trivial⟩
  ⟨Ob.d fun c => r_move rfl (c.p e6),
  Ob.d fun c => r_assign rfl rfl,
  Ob.d fun c => r_assign rfl (c.n 0 rfl), trivial⟩ ?_
 intro a2 w2 τ2 st2 f2
 obtain ⟨e0, e1, e2, e6, -⟩ := f2.ks [(0, _), (1, _), (2, _), (6, _)] ⟨e0, e1, e2, e6, trivial⟩
 have e7 : get a2 7 = (.int .i64 (0)) := f2.v 1 rfl
 have e8 : get a2 8 = (.int .i64 (20)) := f2.v 2 rfl
 replace r0 := f2.io 0 rfl
 clear f2
 show Code.wp _ _ _ a2 w2
 refine wp_seq ?_
 refine wp_block ?_
 refine wp_loop (fun a_ w_ => ∃ (a b : Nat) (ys : List (ByteArray × ByteArray)) (τ : Nat → Foot), (a ≤ xs.length) ∧
      (b = a + 20) ∧
      (ys.length = xs.length) ∧
      (ys.take a ++ chunk ltR 20 (xs.drop a) = chunk ltR 20 xs) ∧
      (ys.drop a = xs.drop a) ∧
      St (fun k => v.ownBlock = some k ∨ w.heap.size ≤ k) w 63 a_ w_ τ ∧
      get a_ 7 = (.int .i64 ((a : Int))) ∧
      get a_ 8 = (.int .i64 ((b : Int))) ∧
      get a_ 0 = v ∧
      get a_ 1 = (.int .i64 ((xs.length : Int))) ∧
      get a_ 2 = (.func (.func 28) #[] #[]) ∧
      get a_ 6 = (.int .i64 (20)) ∧
      ownR RowE 36 (ys) (τ 0) v w_) (fun a_ _ => xs.length + 20 - (intOf (get a_ 8)).toNat) ?_ ?_
 · refine ⟨0, 20, xs, τ2, ?_, ?_, ?_, ?_, ?_, st2, (e7.trans (int_eq (by omega))), (e8.trans (int_eq (by omega))), e0, e1, e2, e6, ?_⟩
   · omega
   · omega
   · rfl
   · simp
   · rfl
   · exact r0.cast (by rfl)
 intro a3 w3 hI
 obtain ⟨a, b, ys, τ3, q0, q1, q2, q3, q4, st3, e7, e8, e0, e1, e2, e6, r0⟩ := hI
 have m8 := e8
 refine wp_seq ?_
 refine wp_seq ?_
 refine region_St (bf := [0, 0, 3]) (sp := [det _ 11 _, det _ 12 _, det _ 13 _]) [io r0] mixed st3 (by kernel_rfl) ⟨r0, trivial⟩
  ⟨Ob.d fun c => r_move rfl (c.p e8),
  Ob.d fun c => r_move rfl (c.p e1),
  Ob.d fun c => r_leq rfl (c.n 0 rfl) (c.n 1 rfl), trivial⟩ ?_
 intro a4 w4 τ4 st4 f4
 obtain ⟨e0, e1, e2, e6, e7, e8, -⟩ := f4.ks [(0, _), (1, _), (2, _), (6, _), (7, _), (8, _)] ⟨e0, e1, e2, e6, e7, e8, trivial⟩
 have e13 : get a4 13 = (.bool (decide ((b : Int) ≤ (xs.length : Int)))) := f4.v 2 rfl
 replace r0 := f4.io 0 rfl
 clear f4
 show Code.wp _ _ _ a4 w4
 refine wp_cond_split (t := decide ((b : Int) ≤ (xs.length : Int))) e13 (fun hc1 => ?_) (fun hc1 => ?_)
 · try simp only [decide_eq_true_eq] at hc1
   refine wp_skip ?_
   show Code.wp _ _ _ a4 w4
   refine wp_block ?_
   refine wp_seq ?_
   refine region_St (bf := [0, 0, 0, 0, 15]) (sp := [det _ 14 _, det _ 15 _, det _ 16 _, det _ 17 _, own _ _ _ 0 0 _]) [io r0] mixed st4 (by kernel_rfl) ⟨r0, trivial⟩
    ⟨Ob.d fun c => r_move rfl (c.p e0),
    Ob.d fun c => r_move rfl (c.p e7),
    Ob.d fun c => r_move rfl (c.p e8),
    Ob.d fun c => r_move rfl (c.p e2),
    Ob.callIn rfl rfl rfl (by decide) (fun _ a_ _ _ c => ⟨_, _, (e_call4 rfl rfl Try.call42 (c.n 0 rfl) (c.n 1 rfl) (c.n 2 rfl) (c.n 3 rfl)), c.p e0, c.io 0 rfl, fun ho_ => rowIns_n v ys a b _ ho_ (by omega) (by omega) (by omega)⟩), trivial⟩ ?_
   intro a5 w5 τ5 st5 f5
   obtain ⟨e0, e1, e2, e6, e7, e8, e13, -⟩ := f5.ks [(0, _), (1, _), (2, _), (6, _), (7, _), (8, _), (13, _)] ⟨e0, e1, e2, e6, e7, e8, e13, trivial⟩
   replace r0 : ownR RowE 36 (insF ltR ys a b) (τ5 0) v w5 := f5.ro 4 e0 rfl
   clear f5
   show Code.wp _ _ _ a5 w5
   refine wp_seq ?_
   refine region_St (bf := [0, 1]) (sp := [det _ 19 _, det _ 7 _]) [io r0] mixed st5 (by kernel_rfl) ⟨r0, trivial⟩
    ⟨Ob.d fun c => r_move rfl (c.p e8),
    Ob.d fun c => r_assign rfl (c.n 0 rfl), trivial⟩ ?_
   intro a6 w6 τ6 st6 f6
   obtain ⟨e0, e1, e2, e6, e8, e13, -⟩ := f6.ks [(0, _), (1, _), (2, _), (6, _), (8, _), (13, _)] ⟨e0, e1, e2, e6, e8, e13, trivial⟩
   have e7 : get a6 7 = (.int .i64 ((b : Int))) := f6.v 1 rfl
   replace r0 := f6.io 0 rfl
   clear f6
   show Code.wp _ _ _ a6 w6
   refine region_St (bf := [0, 0, 3, 7]) (sp := [det _ 20 _, det _ 21 _, det _ 22 _, det _ 8 _]) [io r0] mixed st6 (by kernel_rfl) ⟨r0, trivial⟩
    ⟨Ob.d fun c => r_move rfl (c.p e8),
    Ob.d fun c => r_move rfl (c.p e6),
    Ob.d fun c => r_add rfl (c.n 0 rfl) (c.n 1 rfl) (by omega),
    Ob.d fun c => r_assign rfl (c.n 2 rfl), trivial⟩ ?_
   intro a7 w7 τ7 st7 f7
   obtain ⟨e0, e1, e2, e6, e7, e13, -⟩ := f7.ks [(0, _), (1, _), (2, _), (6, _), (7, _), (13, _)] ⟨e0, e1, e2, e6, e7, e13, trivial⟩
   have e8 : get a7 8 = (.int .i64 ((b : Int) + 20)) := f7.v 3 rfl
   replace r0 := f7.io 0 rfl
   clear f7
   show _
   refine ⟨⟨b, b + 20, insF ltR ys a b, τ7, ?_, ?_, ?_, ?_, ?_, st7, (e7.trans (int_eq (by omega))), (e8.trans (int_eq (by omega))), e0, e1, e2, e6, ?_⟩, ?_⟩
   · omega
   · omega
   · rw [insF_len (by omega) (by omega)]; exact q2
   · subst q1; exact (st1_step (by omega) q3 q4 (by omega)).1
   · subst q1; exact (st1_step (by omega) q3 q4 (by omega)).2
   · exact r0.cast (by rfl)
   · simp only [m8, e8, intOf]; omega
 try simp only [decide_eq_false_iff_not, Int.not_le] at hc1
 refine wp_exit ?_
 repeat (with_reducible refine then_exit ?_)
 refine exit_here ?_
 show Code.wp _ _ _ a4 w4
 refine wp_seq ?_
 refine region_St (bf := [0, 0, 0, 0, 15]) (sp := [det _ 23 _, det _ 24 _, det _ 25 _, det _ 26 _, own _ _ _ 0 0 _]) [io r0] mixed st4 (by kernel_rfl) ⟨r0, trivial⟩
  ⟨Ob.d fun c => r_move rfl (c.p e0),
  Ob.d fun c => r_move rfl (c.p e7),
  Ob.d fun c => r_move rfl (c.p e1),
  Ob.d fun c => r_move rfl (c.p e2),
  Ob.callIn rfl rfl rfl (by decide) (fun _ a_ _ _ c => ⟨_, _, (e_call4 rfl rfl Try.call42 (c.n 0 rfl) (c.n 1 rfl) (c.n 2 rfl) (c.n 3 rfl)), c.p e0, c.io 0 rfl, fun ho_ => rowIns_n v ys a xs.length _ ho_ (by omega) (by omega) (by omega)⟩), trivial⟩ ?_
 intro a8 w8 τ8 st8 f8
 obtain ⟨e0, e1, e2, e6, e7, e8, -⟩ := f8.ks [(0, _), (1, _), (2, _), (6, _), (7, _), (8, _)] ⟨e0, e1, e2, e6, e7, e8, trivial⟩
 replace r0 : ownR RowE 36 (insF ltR ys a xs.length) (τ8 0) v w8 := f8.ro 4 e0 rfl
 clear f8
 show Code.wp _ _ _ a8 w8
 refine wp_block ?_
 refine wp_loop (fun a_ w_ => ∃ (bs : Nat) (zs : List (ByteArray × ByteArray)) (τ : Nat → Foot), (1 ≤ bs) ∧
      (zs = chunk ltR bs xs) ∧
      St (fun k => v.ownBlock = some k ∨ w.heap.size ≤ k) w 63 a_ w_ τ ∧
      get a_ 6 = (.int .i64 ((bs : Int))) ∧
      get a_ 0 = v ∧
      get a_ 1 = (.int .i64 ((xs.length : Int))) ∧
      get a_ 2 = (.func (.func 28) #[] #[]) ∧
      ownR RowE 36 (zs) (τ 0) v w_) (fun a_ _ => xs.length - (intOf (get a_ 6)).toNat) ?_ ?_
 · refine ⟨20, insF ltR ys a xs.length, τ8, ?_, ?_, st8, (e6.trans (int_eq (by omega))), e0, e1, e2, ?_⟩
   · omega
   · have h_ := st1_end q3 q4 (by omega) (by omega); rw [q2] at h_; exact h_
   · exact r0.cast (by rfl)
 intro a9 w9 hI
 obtain ⟨bs, zs, τ9, q0, q1, st9, e6, e0, e1, e2, r0⟩ := hI
 have p1 := q1
 have hzl : zs.length = xs.length := by rw [q1]; exact chunk_len _ _ (Nat.le_refl _)
 have m6 := e6
 refine wp_seq ?_
 refine wp_seq ?_
 refine region_St (bf := [0, 0, 3]) (sp := [det _ 28 _, det _ 29 _, det _ 30 _]) [io r0] mixed st9 (by kernel_rfl) ⟨r0, trivial⟩
  ⟨Ob.d fun c => r_move rfl (c.p e6),
  Ob.d fun c => r_move rfl (c.p e1),
  Ob.d fun c => r_lss rfl (c.n 0 rfl) (c.n 1 rfl), trivial⟩ ?_
 intro a10 w10 τ10 st10 f10
 obtain ⟨e0, e1, e2, e6, -⟩ := f10.ks [(0, _), (1, _), (2, _), (6, _)] ⟨e0, e1, e2, e6, trivial⟩
 have e30 : get a10 30 = (.bool (decide ((bs : Int) < (xs.length : Int)))) := f10.v 2 rfl
 replace r0 := f10.io 0 rfl
 clear f10
 show Code.wp _ _ _ a10 w10
 refine wp_cond_split (t := decide ((bs : Int) < (xs.length : Int))) e30 (fun hc2 => ?_) (fun hc2 => ?_)
 · try simp only [decide_eq_true_eq] at hc2
   refine wp_skip ?_
   show Code.wp _ _ _ a10 w10
   refine wp_block ?_
   refine wp_seq ?_
   refine region_St (bf := [0, 1, 0, 7]) (sp := [det _ 31 _, det _ 32 _, det _ 7 _, det _ 8 _]) [io r0] mixed st10 (by kernel_rfl) ⟨r0, trivial⟩
    ⟨Ob.d fun c => r_move rfl (c.p e6),
    Ob.d fun c => r_mul rfl rfl (c.n 0 rfl) (by omega),
    Ob.d fun c => r_assign rfl rfl,
    Ob.d fun c => r_assign rfl (c.n 1 rfl), trivial⟩ ?_
   intro a11 w11 τ11 st11 f11
   obtain ⟨e0, e1, e2, e6, e30, -⟩ := f11.ks [(0, _), (1, _), (2, _), (6, _), (30, _)] ⟨e0, e1, e2, e6, e30, trivial⟩
   have e7 : get a11 7 = (.int .i64 (0)) := f11.v 2 rfl
   have e8 : get a11 8 = (.int .i64 (2 * (bs : Int))) := f11.v 3 rfl
   replace r0 := f11.io 0 rfl
   clear f11
   show Code.wp _ _ _ a11 w11
   refine wp_seq ?_
   refine wp_block ?_
   refine wp_loop (fun a_ w_ => ∃ (u d : Nat) (us : List (ByteArray × ByteArray)) (τ : Nat → Foot), (u ≤ xs.length) ∧
          (d = u + 2 * bs) ∧
          (us.length = xs.length) ∧
          (us.take u ++ chunk ltR (2 * bs) (xs.drop u) = chunk ltR (2 * bs) xs) ∧
          (us.drop u = chunk ltR bs (xs.drop u)) ∧
          St (fun k => v.ownBlock = some k ∨ w.heap.size ≤ k) w 63 a_ w_ τ ∧
          get a_ 7 = (.int .i64 ((u : Int))) ∧
          get a_ 8 = (.int .i64 ((d : Int))) ∧
          get a_ 0 = v ∧
          get a_ 1 = (.int .i64 ((xs.length : Int))) ∧
          get a_ 2 = (.func (.func 28) #[] #[]) ∧
          get a_ 6 = (.int .i64 ((bs : Int))) ∧
          get a_ 30 = (.bool (decide ((bs : Int) < (xs.length : Int)))) ∧
          ownR RowE 36 (us) (τ 0) v w_) (fun a_ _ => xs.length + 2 * bs - (intOf (get a_ 8)).toNat) ?_ ?_
   · refine ⟨0, 2 * bs, zs, τ11, ?_, ?_, ?_, ?_, ?_, st11, (e7.trans (int_eq (by omega))), (e8.trans (int_eq (by omega))), e0, e1, e2, e6, e30, ?_⟩
     · omega
     · omega
     · exact hzl
     · simp
     · simpa using p1
     · exact r0.cast (by rfl)
   intro a12 w12 hI
   obtain ⟨u, d, us, τ12, q0, q1, q2, q3, q4, st12, e7, e8, e0, e1, e2, e6, e30, r0⟩ := hI
   have m8 := e8
   refine wp_seq ?_
   refine wp_seq ?_
   refine region_St (bf := [0, 0, 3]) (sp := [det _ 33 _, det _ 34 _, det _ 35 _]) [io r0] mixed st12 (by kernel_rfl) ⟨r0, trivial⟩
    ⟨Ob.d fun c => r_move rfl (c.p e8),
    Ob.d fun c => r_move rfl (c.p e1),
    Ob.d fun c => r_leq rfl (c.n 0 rfl) (c.n 1 rfl), trivial⟩ ?_
   intro a13 w13 τ13 st13 f13
   obtain ⟨e0, e1, e2, e6, e7, e8, e30, -⟩ := f13.ks [(0, _), (1, _), (2, _), (6, _), (7, _), (8, _), (30, _)] ⟨e0, e1, e2, e6, e7, e8, e30, trivial⟩
   have e35 : get a13 35 = (.bool (decide ((d : Int) ≤ (xs.length : Int)))) := f13.v 2 rfl
   replace r0 := f13.io 0 rfl
   clear f13
   show Code.wp _ _ _ a13 w13
   refine wp_cond_split (t := decide ((d : Int) ≤ (xs.length : Int))) e35 (fun hc3 => ?_) (fun hc3 => ?_)
   · try simp only [decide_eq_true_eq] at hc3
     refine wp_skip ?_
     show Code.wp _ _ _ a13 w13
     refine wp_block ?_
     refine wp_seq ?_
     refine region_St (bf := [0, 0, 0, 0, 12, 0, 0, 127]) (sp := [det _ 36 _, det _ 37 _, det _ 38 _, det _ 39 _, det _ 40 _, det _ 41 _, det _ 42 _, own _ _ _ 0 0 _]) [io r0] mixed st13 (by kernel_rfl) ⟨r0, trivial⟩
      ⟨Ob.d fun c => r_move rfl (c.p e0),
      Ob.d fun c => r_move rfl (c.p e7),
      Ob.d fun c => r_move rfl (c.p e7),
      Ob.d fun c => r_move rfl (c.p e6),
      Ob.d fun c => r_add rfl (c.n 2 rfl) (c.n 3 rfl) (by omega),
      Ob.d fun c => r_move rfl (c.p e8),
      Ob.d fun c => r_move rfl (c.p e2),
      Ob.callIn rfl rfl rfl (by decide) (fun _ a_ _ _ c => ⟨_, _, (e_call5 rfl rfl Try.call43 (c.n 0 rfl) (c.n 1 rfl) (c.n 4 rfl) (c.n 5 rfl) (c.n 6 rfl)), c.p e0, c.io 0 rfl, fun ho_ => rowSym_all _ v us u (u + bs) d _ ho_ (by omega) (by omega) (by omega) (by omega) (Nat.le_refl _) (st2_sorted ltR_swo (bs := bs) (xs0 := xs) (by omega) (by omega) q4 (b := d) (by omega) (by omega) (by omega) (by omega)).1 (st2_sorted ltR_swo (bs := bs) (xs0 := xs) (by omega) (by omega) q4 (b := d) (by omega) (by omega) (by omega) (by omega)).2.1⟩), trivial⟩ ?_
     intro a14 w14 τ14 st14 f14
     obtain ⟨e0, e1, e2, e6, e7, e8, e30, e35, -⟩ := f14.ks [(0, _), (1, _), (2, _), (6, _), (7, _), (8, _), (30, _), (35, _)] ⟨e0, e1, e2, e6, e7, e8, e30, e35, trivial⟩
     replace r0 : ownR RowE 36 (mF ltR us u (u + bs) d) (τ14 0) v w14 := f14.ro 7 e0 rfl
     clear f14
     show Code.wp _ _ _ a14 w14
     refine wp_seq ?_
     refine region_St (bf := [0, 1]) (sp := [det _ 44 _, det _ 7 _]) [io r0] mixed st14 (by kernel_rfl) ⟨r0, trivial⟩
      ⟨Ob.d fun c => r_move rfl (c.p e8),
      Ob.d fun c => r_assign rfl (c.n 0 rfl), trivial⟩ ?_
     intro a15 w15 τ15 st15 f15
     obtain ⟨e0, e1, e2, e6, e8, e30, e35, -⟩ := f15.ks [(0, _), (1, _), (2, _), (6, _), (8, _), (30, _), (35, _)] ⟨e0, e1, e2, e6, e8, e30, e35, trivial⟩
     have e7 : get a15 7 = (.int .i64 ((d : Int))) := f15.v 1 rfl
     replace r0 := f15.io 0 rfl
     clear f15
     show Code.wp _ _ _ a15 w15
     refine region_St (bf := [0, 0, 2, 7, 15]) (sp := [det _ 45 _, det _ 46 _, det _ 47 _, det _ 48 _, det _ 8 _]) [io r0] mixed st15 (by kernel_rfl) ⟨r0, trivial⟩
      ⟨Ob.d fun c => r_move rfl (c.p e8),
      Ob.d fun c => r_move rfl (c.p e6),
      Ob.d fun c => r_mul rfl rfl (c.n 1 rfl) (by omega),
      Ob.d fun c => r_add rfl (c.n 0 rfl) (c.n 2 rfl) (by omega),
      Ob.d fun c => r_assign rfl (c.n 3 rfl), trivial⟩ ?_
     intro a16 w16 τ16 st16 f16
     obtain ⟨e0, e1, e2, e6, e7, e30, e35, -⟩ := f16.ks [(0, _), (1, _), (2, _), (6, _), (7, _), (30, _), (35, _)] ⟨e0, e1, e2, e6, e7, e30, e35, trivial⟩
     have e8 : get a16 8 = (.int .i64 ((d : Int) + (2 * (bs : Int)))) := f16.v 4 rfl
     replace r0 := f16.io 0 rfl
     clear f16
     show _
     refine ⟨⟨d, d + 2 * bs, mF ltR us u (u + bs) d, τ16, ?_, ?_, ?_, ?_, ?_, st16, (e7.trans (int_eq (by omega))), (e8.trans (int_eq (by omega))), e0, e1, e2, e6, e30, ?_⟩, ?_⟩
     · omega
     · omega
     · rw [mF_len (by omega) (by omega) (by omega)]; exact q2
     · subst q1; exact (st2_step ltR_swo (by omega) q2 q3 q4 (by omega)).1
     · subst q1; exact (st2_step ltR_swo (by omega) q2 q3 q4 (by omega)).2
     · exact r0.cast (by rfl)
     · simp only [m8, e8, intOf]; omega
   try simp only [decide_eq_false_iff_not, Int.not_le] at hc3
   refine wp_exit ?_
   repeat (with_reducible refine then_exit ?_)
   refine exit_here ?_
   show Code.wp _ _ _ a13 w13
   refine wp_seq ?_
   refine wp_seq ?_
   refine region_St (bf := [0, 0, 3, 7]) (sp := [det _ 49 _, det _ 50 _, det _ 51 _, det _ 9 _]) [io r0] mixed st13 (by kernel_rfl) ⟨r0, trivial⟩
    ⟨Ob.d fun c => r_move rfl (c.p e7),
    Ob.d fun c => r_move rfl (c.p e6),
    Ob.d fun c => r_add rfl (c.n 0 rfl) (c.n 1 rfl) (by omega),
    Ob.d fun c => r_assign rfl (c.n 2 rfl), trivial⟩ ?_
   intro a17 w17 τ17 st17 f17
   obtain ⟨e0, e1, e2, e6, e7, e8, e30, e35, -⟩ := f17.ks [(0, _), (1, _), (2, _), (6, _), (7, _), (8, _), (30, _), (35, _)] ⟨e0, e1, e2, e6, e7, e8, e30, e35, trivial⟩
   have e9 : get a17 9 = (.int .i64 ((u : Int) + (bs : Int))) := f17.v 3 rfl
   replace r0 := f17.io 0 rfl
   clear f17
   show Code.wp _ _ _ a17 w17
   refine wp_seq ?_
   refine region_St (bf := [0, 0, 3]) (sp := [det _ 52 _, det _ 53 _, det _ 54 _]) [io r0] mixed st17 (by kernel_rfl) ⟨r0, trivial⟩
    ⟨Ob.d fun c => r_move rfl (c.p e9),
    Ob.d fun c => r_move rfl (c.p e1),
    Ob.d fun c => r_lss rfl (c.n 0 rfl) (c.n 1 rfl), trivial⟩ ?_
   intro a18 w18 τ18 st18 f18
   obtain ⟨e0, e1, e2, e6, e7, e8, e9, e30, e35, -⟩ := f18.ks [(0, _), (1, _), (2, _), (6, _), (7, _), (8, _), (9, _), (30, _), (35, _)] ⟨e0, e1, e2, e6, e7, e8, e9, e30, e35, trivial⟩
   have e54 : get a18 54 = (.bool (decide ((u : Int) + (bs : Int) < (xs.length : Int)))) := f18.v 2 rfl
   replace r0 := f18.io 0 rfl
   clear f18
   show Code.wp _ _ _ a18 w18
   refine wp_cond_split (t := decide ((u : Int) + (bs : Int) < (xs.length : Int))) e54 (fun hc4 => ?_) (fun hc4 => ?_)
   · try simp only [decide_eq_true_eq] at hc4
     refine region_St (bf := [0, 0, 0, 0, 0, 31]) (sp := [det _ 55 _, det _ 56 _, det _ 57 _, det _ 58 _, det _ 59 _, own _ _ _ 0 0 _]) [io r0] mixed st18 (by kernel_rfl) ⟨r0, trivial⟩
      ⟨Ob.d fun c => r_move rfl (c.p e0),
      Ob.d fun c => r_move rfl (c.p e7),
      Ob.d fun c => r_move rfl (c.p e9),
      Ob.d fun c => r_move rfl (c.p e1),
      Ob.d fun c => r_move rfl (c.p e2),
      Ob.callIn rfl rfl rfl (by decide) (fun _ a_ _ _ c => ⟨_, _, (e_call5 rfl rfl Try.call43 (c.n 0 rfl) (c.n 1 rfl) (c.n 2 rfl) (c.n 3 rfl) (c.n 4 rfl)), c.p e0, c.io 0 rfl, fun ho_ => rowSym_all _ v us u (u + bs) xs.length _ ho_ (by omega) (by omega) (by omega) (by omega) (Nat.le_refl _) (st2_sorted ltR_swo (bs := bs) (xs0 := xs) (by omega) (by omega) q4 (b := xs.length) (by omega) (by omega) (by omega) (by omega)).1 (st2_sorted ltR_swo (bs := bs) (xs0 := xs) (by omega) (by omega) q4 (b := xs.length) (by omega) (by omega) (by omega) (by omega)).2.1⟩), trivial⟩ ?_
     intro a19 w19 τ19 st19 f19
     obtain ⟨e0, e1, e2, e6, e7, e8, e9, e30, e35, e54, -⟩ := f19.ks [(0, _), (1, _), (2, _), (6, _), (7, _), (8, _), (9, _), (30, _), (35, _), (54, _)] ⟨e0, e1, e2, e6, e7, e8, e9, e30, e35, e54, trivial⟩
     replace r0 : ownR RowE 36 (mF ltR us u (u + bs) xs.length) (τ19 0) v w19 := f19.ro 5 e0 rfl
     clear f19
     show Code.wp _ _ _ a19 w19
     refine region_St (bf := [0, 1, 3]) (sp := [det _ 61 _, det _ 62 _, det _ 6 _]) [io r0] mixed st19 (by kernel_rfl) ⟨r0, trivial⟩
      ⟨Ob.d fun c => r_move rfl (c.p e6),
      Ob.d fun c => r_mul rfl (c.n 0 rfl) rfl (by omega),
      Ob.d fun c => r_assign rfl (c.n 1 rfl), trivial⟩ ?_
     intro a20 w20 τ20 st20 f20
     obtain ⟨e0, e1, e2, e7, e8, e9, e30, e35, e54, -⟩ := f20.ks [(0, _), (1, _), (2, _), (7, _), (8, _), (9, _), (30, _), (35, _), (54, _)] ⟨e0, e1, e2, e7, e8, e9, e30, e35, e54, trivial⟩
     have e6 : get a20 6 = (.int .i64 ((bs : Int) * 2)) := f20.v 2 rfl
     replace r0 := f20.io 0 rfl
     clear f20
     show _
     refine ⟨⟨2 * bs, mF ltR us u (u + bs) xs.length, τ20, ?_, ?_, st20, (e6.trans (int_eq (by omega))), e0, e1, e2, ?_⟩, ?_⟩
     · omega
     · first | exact st2_end' (by omega) q2 q3 q4 (by omega) | (have h_ := st2_end ltR_swo (by omega) q2 q3 q4 (by omega) (by omega); rw [q2] at h_; exact h_)
     · exact r0.cast (by rfl)
     · simp only [m6, e6, intOf]; omega
   try simp only [decide_eq_false_iff_not, Int.not_lt] at hc4
   refine wp_skip ?_
   show Code.wp _ _ _ a18 w18
   refine region_St (bf := [0, 1, 3]) (sp := [det _ 61 _, det _ 62 _, det _ 6 _]) [io r0] mixed st18 (by kernel_rfl) ⟨r0, trivial⟩
    ⟨Ob.d fun c => r_move rfl (c.p e6),
    Ob.d fun c => r_mul rfl (c.n 0 rfl) rfl (by omega),
    Ob.d fun c => r_assign rfl (c.n 1 rfl), trivial⟩ ?_
   intro a21 w21 τ21 st21 f21
   obtain ⟨e0, e1, e2, e7, e8, e9, e30, e35, e54, -⟩ := f21.ks [(0, _), (1, _), (2, _), (7, _), (8, _), (9, _), (30, _), (35, _), (54, _)] ⟨e0, e1, e2, e7, e8, e9, e30, e35, e54, trivial⟩
   have e6 : get a21 6 = (.int .i64 ((bs : Int) * 2)) := f21.v 2 rfl
   replace r0 := f21.io 0 rfl
   clear f21
   show _
   refine ⟨⟨2 * bs, us, τ21, ?_, ?_, st21, (e6.trans (int_eq (by omega))), e0, e1, e2, ?_⟩, ?_⟩
   · omega
   · first | exact st2_end' (by omega) q2 q3 q4 (by omega) | (have h_ := st2_end ltR_swo (by omega) q2 q3 q4 (by omega) (by omega); rw [q2] at h_; exact h_)
   · exact r0.cast (by rfl)
   · simp only [m6, e6, intOf]; omega
 try simp only [decide_eq_false_iff_not, Int.not_lt] at hc2
 refine wp_exit ?_
 repeat (with_reducible refine then_exit ?_)
 refine exit_here ?_
 refine end0 (fn := Try.f38) rfl st10.defers ?_
 rw [q1, chunk_small (by omega)] at r0
 exact ⟨rfl, r0.1, st10.extIn⟩

set_option maxRecDepth 100000 in
theorem rowSort_c (v : Value) (xs : List (ByteArray × ByteArray)) (w : World) (ho : OwnT RowE 36 w v xs) (hbig : xs.length ≤ 1000000000000) : Calls Try.prog 27 #[v, (.func (.func 28) #[] #[])] w (fun e w' => e = .returned (.tuple #[]) ∧ OwnT RowE 36 w' v (isort ltR xs) ∧ Ext (fun k => v.ownBlock = some k) w w') := by
 refine enterIn (fun g => v.ownBlock = some g) (fun g hg => ho.lt g hg) (n := 9) Try.func27 rfl rfl (Nat.le_of_ble_eq_true rfl) ?_
 intro a0 τ0 ha hτ st0
 have e0 : get a0 0 = v := ha 0 _ rfl
 have e1 : get a0 1 = (.func (.func 28) #[] #[]) := ha 1 _ rfl
 clear ha
 have r0 : ownR RowE 36 xs (τ0 0) v w := ⟨ho, fun g hg => by rw [hτ]; exact hg⟩
 have hle := r0.le
 refine region_St (bf := [0, 0, 2, 0, 15]) (sp := [det _ 4 _, det _ 5 _, det _ 6 _, det _ 7 _, own _ _ _ 0 0 _]) [io r0] mixed st0 (by kernel_rfl) ⟨r0, trivial⟩
  ⟨Ob.d fun c => r_move rfl (c.p e0),
  Ob.d fun c => r_move rfl (c.p e0),
  Ob.d fun c => r_len rfl Try.underlying22 (c.n 1 rfl) r0.isSl,
  Ob.d fun c => r_move rfl (c.p e1),
  Ob.callIn rfl rfl rfl (by decide) (fun _ a_ _ _ c => ⟨_, _, (e_call3 rfl rfl Try.call38 (c.n 0 rfl) (c.n 2 rfl) (c.n 3 rfl)), c.p e0, c.io 0 rfl, fun ho_ => rowStable_c v xs _ ho_ (by omega)⟩), trivial⟩ ?_
 intro a1 w1 τ1 st1 f1
 obtain ⟨e0, -⟩ := f1.ks [(0, _)] ⟨e0, trivial⟩
 replace r0 : ownR RowE 36 (isort ltR xs) (τ1 0) v w1 := f1.ro 4 e0 rfl
 clear f1
 refine end0 (fn := Try.f27) rfl st1.defers ?_
 exact ⟨rfl, r0.1, st1.extIn⟩
end B
end Go.Proofs.Ythaeepiichphjaa
