/-
  Walks, printed by a program (gen.py): TrS.
-/
import Derived.Test.YtocmchlhbniloaaTrE1
set_option linter.unusedSimpArgs false
set_option linter.unusedVariables false
namespace Go.Proofs.Ytocmchlhbniloaa
namespace B
open Go.RowKit
open Srt
theorem size_pos0 {s : ByteArray} (h : eqT s (⟨#[]⟩ : ByteArray) = false) : (0 : Int) < (s.size : Int) := by
  have hl := bs_len s
  rw [eqT_eq] at h
  cases hb : bs s with
  | nil =>
    have : s.data.toList = [] := hb
    rw [this] at h; simp at h
  | cons b l => rw [hb] at hl; simp at hl; omega
theorem byteRow1 {v : Int} (h0 : 0 ≤ v) (h1 : v ≤ 255) : (#[Value.int .u8 v] : Array Value).toList = ByteE.row [UInt8.ofNat v.toNat] := by
  rw [byte_row]
  simp only [List.map_cons, List.map_nil]
  congr 2
  have e1 : (UInt8.ofNat v.toNat).toNat = v.toNat := by
    rw [UInt8.toNat_ofNat']
    exact Nat.mod_eq_of_lt (by omega)
  rw [e1]; omega
theorem spS_hit0 {s : ByteArray} {k : Nat} (h : (decide ((k : Int) + 1 = (s.size : Int)) || leadB (byteAt s ((k : Int) + 1))) = true) : spS s (k + 1) = ((spS s k).1 ++ [s.extract (spS s k).2 (k + 1)], k + 1) := by
  rw [spS, spStep, if_pos (by rw [show ((k + 1 : Nat) : Int) = (k : Int) + 1 by omega]; exact h)]
theorem spS_miss0 {s : ByteArray} {k : Nat} (h : (decide ((k : Int) + 1 = (s.size : Int)) || leadB (byteAt s ((k : Int) + 1))) = false) : spS s (k + 1) = spS s k := by
  rw [spS, spStep, if_neg (by rw [show ((k + 1 : Nat) : Int) = (k : Int) + 1 by omega, h]; decide)]
theorem spS_hit {s : ByteArray} {k : Nat} (h : (decide ((k : Int) + 1 = (s.size : Int)) || leadB (byteAt s ((k : Int) + 1))) = true) : (spS s (k + 1)).1 = (spS s k).1 ++ [s.extract (spS s k).2 ((k : Int) + 1).toNat] := by
  rw [spS_hit0 h]; rfl
theorem spS_miss {s : ByteArray} {k : Nat} (h : (decide ((k : Int) + 1 = (s.size : Int)) || leadB (byteAt s ((k : Int) + 1))) = false) : (spS s (k + 1)).1 = (spS s k).1 := by rw [spS_miss0 h]
theorem spS_hit2 {s : ByteArray} {k : Nat} (h : (decide ((k : Int) + 1 = (s.size : Int)) || leadB (byteAt s ((k : Int) + 1))) = true) : (spS s (k + 1)).2 = k + 1 := by rw [spS_hit0 h]
theorem spS_miss2 {s : ByteArray} {k : Nat} (h : (decide ((k : Int) + 1 = (s.size : Int)) || leadB (byteAt s ((k : Int) + 1))) = false) : (spS s (k + 1)).2 = (spS s k).2 := by rw [spS_miss0 h]
set_option maxRecDepth 100000 in
theorem inside_c (b : Int) (w : World) : Calls Try.prog 57 #[.int .u8 b] w (fun e w' => e = .returned (.bool (inB b)) ∧ Ext none' w w') := by
 refine enter (n := 9) Try.func57 rfl rfl (Nat.le_of_ble_eq_true rfl) ?_
 intro a0 τ0 ha st0
 have e0 : get a0 0 = (.int .u8 (b)) := ha 0 _ rfl
 clear ha
 refine wp_seq ?_
 refine region_St (bf := [0]) (sp := [det _ 2 _]) [] mixed st0 (by kernel_rfl) trivial
  ⟨Ob.d fun c => r_assign rfl rfl, trivial⟩ ?_
 intro a1 w1 τ1 st1 f1
 obtain ⟨e0, -⟩ := f1.ks [(0, _)] ⟨e0, trivial⟩
 have e2 : get a1 2 = (.bool (false)) := f1.v 0 rfl
 clear f1
 show Code.wp _ _ _ a1 w1
 refine wp_seq ?_
 refine region_St (bf := [0, 1, 3, 7, 15, 31, 63]) (sp := [det _ 3 _, det _ 4 _, det _ 5 _, gdet _ 6 _ _, gdet _ 7 _ _, det _ 8 _, det _ 2 _]) [] mixed st1 (by kernel_rfl) trivial
  ⟨Ob.d fun c => r_move rfl (c.p e0),
  Ob.d fun c => r_geq rfl (c.n 0 rfl) rfl,
  Ob.d fun c => r_move rfl (c.n 1 rfl),
  Ob.g 2 true rfl fun c hpc => r_move rfl (c.p e0),
  Ob.g 2 true rfl fun c hpc => r_leq rfl (c.m 3 rfl hpc) rfl,
  Ob.d fun c => r_and rfl (c.n 2 rfl) (fun h => c.m 4 rfl h),
  Ob.d fun c => r_assign rfl (c.n 5 rfl), trivial⟩ ?_
 intro a2 w2 τ2 st2 f2
 have e2 : get a2 2 = (.bool ((decide (128 ≤ b)) && (decide (b ≤ 191)))) := f2.v 6 rfl
 clear f2
 show Code.wp _ _ _ a2 w2
 refine wp_ret ?_
 repeat (first | with_reducible refine then_ret ?_ | with_reducible refine block_ret ?_)
 refine ret1 (fn := Try.f57) rfl st2.defers e2 ?_
 exact ⟨rfl, st2.ext0⟩

set_option maxRecDepth 100000 in
theorem lead_c (b : Int) (w : World) : Calls Try.prog 46 #[.int .u8 b] w (fun e w' => e = .returned (.bool (leadB b)) ∧ Ext none' w w') := by
 refine enter (n := 9) Try.func46 rfl rfl (Nat.le_of_ble_eq_true rfl) ?_
 intro a0 τ0 ha st0
 have e0 : get a0 0 = (.int .u8 (b)) := ha 0 _ rfl
 clear ha
 refine wp_seq ?_
 refine region_St (bf := [0]) (sp := [det _ 2 _]) [] mixed st0 (by kernel_rfl) trivial
  ⟨Ob.d fun c => r_assign rfl rfl, trivial⟩ ?_
 intro a1 w1 τ1 st1 f1
 obtain ⟨e0, -⟩ := f1.ks [(0, _)] ⟨e0, trivial⟩
 have e2 : get a1 2 = (.bool (false)) := f1.v 0 rfl
 clear f1
 show Code.wp _ _ _ a1 w1
 refine wp_seq ?_
 refine region_St (bf := [0, 1, 3, 7, 15, 31, 63]) (sp := [det _ 3 _, det _ 4 _, det _ 5 _, gdet _ 6 _ _, gdet _ 7 _ _, det _ 8 _, det _ 2 _]) [] mixed st1 (by kernel_rfl) trivial
  ⟨Ob.d fun c => r_move rfl (c.p e0),
  Ob.d fun c => r_lss rfl (c.n 0 rfl) rfl,
  Ob.d fun c => r_move rfl (c.n 1 rfl),
  Ob.g 2 false rfl fun c hpc => r_move rfl (c.p e0),
  Ob.g 2 false rfl fun c hpc => r_gtr rfl (c.m 3 rfl hpc) rfl,
  Ob.d fun c => r_or rfl (c.n 2 rfl) (fun h => c.m 4 rfl h),
  Ob.d fun c => r_assign rfl (c.n 5 rfl), trivial⟩ ?_
 intro a2 w2 τ2 st2 f2
 have e2 : get a2 2 = (.bool ((decide (b < 128)) || (decide (191 < b)))) := f2.v 6 rfl
 clear f2
 show Code.wp _ _ _ a2 w2
 refine wp_ret ?_
 repeat (first | with_reducible refine then_ret ?_ | with_reducible refine block_ret ?_)
 refine ret1 (fn := Try.f46) rfl st2.defers e2 ?_
 exact ⟨rfl, st2.ext0⟩

set_option maxRecDepth 100000 in
theorem end_c (s : ByteArray) (a : Nat) (w : World) (hs : s.size ≤ 1000000000) (ha : a ≤ 1000000000) : Calls Try.prog 58 #[(.string (s)), (.int .i64 ((a : Int)))] w (fun e w' => e = .returned (.int .i64 ((endF s a : Nat))) ∧ Ext none' w w') := by
 refine enter (n := 20) Try.func58 rfl rfl (Nat.le_of_ble_eq_true rfl) ?_
 intro a0 τ0 ha st0
 have e0 : get a0 0 = (.string (s)) := ha 0 _ rfl
 have e1 : get a0 1 = (.int .i64 ((a : Int))) := ha 1 _ rfl
 clear ha
 refine wp_seq ?_
 refine region_St (bf := [0]) (sp := [det _ 4 _]) [] mixed st0 (by kernel_rfl) trivial
  ⟨Ob.d fun c => r_assign rfl rfl, trivial⟩ ?_
 intro a1 w1 τ1 st1 f1
 obtain ⟨e0, e1, -⟩ := f1.ks [(0, _), (1, _)] ⟨e0, e1, trivial⟩
 have e4 : get a1 4 = (.int .i64 (0)) := f1.v 0 rfl
 clear f1
 show Code.wp _ _ _ a1 w1
 refine wp_seq ?_
 refine region_St (bf := [0, 1, 3]) (sp := [det _ 5 _, det _ 6 _, det _ 1 _]) [] mixed st1 (by kernel_rfl) trivial
  ⟨Ob.d fun c => r_move rfl (c.p e1),
  Ob.d fun c => r_add rfl (c.n 0 rfl) rfl (by omega),
  Ob.d fun c => r_assign rfl (c.n 1 rfl), trivial⟩ ?_
 intro a2 w2 τ2 st2 f2
 obtain ⟨e0, e4, -⟩ := f2.ks [(0, _), (4, _)] ⟨e0, e4, trivial⟩
 have e1 : get a2 1 = (.int .i64 ((a : Int) + 1)) := f2.v 2 rfl
 clear f2
 show Code.wp _ _ _ a2 w2
 refine wp_seq ?_
 refine wp_block ?_
 refine wp_loop (fun a_ w_ => ∃ (m : Nat) (τ : Nat → Foot), (m + tw s m = a + 1 + tw s (a + 1)) ∧
      (m ≤ 1000000000 + 1) ∧
      St (Nw w) w 20 a_ w_ τ ∧
      get a_ 1 = (.int .i64 ((m : Int))) ∧
      get a_ 0 = (.string (s)) ∧
      get a_ 4 = (.int .i64 (0))) (fun a_ _ => s.size - (intOf (get a_ 1)).toNat) ?_ ?_
 · refine ⟨a + 1, τ2, ?_, ?_, st2, (e1.trans (int_eq (by omega))), e0, e4⟩
   · rfl
   · omega
 intro a3 w3 hI
 obtain ⟨m, τ3, q0, q1, st3, e1, e0, e4⟩ := hI
 have m1 := e1
 refine wp_seq ?_
 refine wp_seq ?_
 refine region_St (bf := [0, 0, 2, 7, 15, 31, 31, 127, 255, 511]) (sp := [det _ 7 _, det _ 8 _, det _ 9 _, det _ 10 _, det _ 11 _, gdet _ 12 _ _, gdet _ 13 _ _, gdet _ 14 _ _, gdet _ 15 _ _, det _ 16 _]) [] mixed st3 (by kernel_rfl) trivial
  ⟨Ob.d fun c => r_move rfl (c.p e1),
  Ob.d fun c => r_move rfl (c.p e0),
  Ob.d fun c => r_lenS rfl Try.underlying9 (c.n 1 rfl),
  Ob.d fun c => r_lss rfl (c.n 0 rfl) (c.n 2 rfl),
  Ob.d fun c => r_move rfl (c.n 3 rfl),
  Ob.g 4 true rfl fun c hpc => r_move rfl (c.p e0),
  Ob.g 4 true rfl fun c hpc => r_move rfl (c.p e1),
  Ob.g 4 true rfl fun c hpc => r_sindex rfl Try.underlying9 (c.m 5 rfl hpc) (c.m 6 rfl hpc) (by have hq0 := bt hpc; omega) (by have hq0 := bt hpc; omega),
  Ob.gc 4 true rfl fun c hpc => ⟨_, _, (e_call1 rfl rfl Try.call57 (c.m 7 rfl hpc)), inside_c (byteAt s ((m : Int))) _⟩,
  Ob.d fun c => r_and rfl (c.n 4 rfl) (fun h => c.m 8 rfl h), trivial⟩ ?_
 intro a4 w4 τ4 st4 f4
 obtain ⟨e0, e1, e4, -⟩ := f4.ks [(0, _), (1, _), (4, _)] ⟨e0, e1, e4, trivial⟩
 have e16 : get a4 16 = (.bool ((decide ((m : Int) < (s.size : Int))) && (inB (byteAt s ((m : Int)))))) := f4.v 9 rfl
 clear f4
 show Code.wp _ _ _ a4 w4
 refine wp_cond_split (t := (decide ((m : Int) < (s.size : Int))) && (inB (byteAt s ((m : Int))))) e16 (fun hc1 => ?_) (fun hc1 => ?_)
 · try simp only [Bool.and_eq_true, decide_eq_true_eq] at hc1
   refine wp_skip ?_
   show Code.wp _ _ _ a4 w4
   refine wp_block ?_
   refine region_St (bf := [0, 1, 3]) (sp := [det _ 17 _, det _ 18 _, det _ 1 _]) [] mixed st4 (by kernel_rfl) trivial
    ⟨Ob.d fun c => r_move rfl (c.p e1),
    Ob.d fun c => r_add rfl (c.n 0 rfl) rfl (by omega),
    Ob.d fun c => r_assign rfl (c.n 1 rfl), trivial⟩ ?_
   intro a5 w5 τ5 st5 f5
   obtain ⟨e0, e4, e16, -⟩ := f5.ks [(0, _), (4, _), (16, _)] ⟨e0, e4, e16, trivial⟩
   have e1 : get a5 1 = (.int .i64 ((m : Int) + 1)) := f5.v 2 rfl
   clear f5
   show _
   refine ⟨⟨m + 1, τ5, ?_, ?_, st5, (e1.trans (int_eq (by omega))), e0, e4⟩, ?_⟩
   · obtain ⟨c1_, c2_⟩ := (by assumption : (m : Int) < (s.size : Int) ∧ inB (byteAt s (m : Int)) = true); rw [← q0, tw_step (by omega) c2_]
   · omega
   · simp only [m1, e1, intOf]; omega
 try simp only [Bool.and_eq_false_iff, decide_eq_false_iff_not, Int.not_lt] at hc1
 refine wp_exit ?_
 repeat (with_reducible refine then_exit ?_)
 refine exit_here ?_
 show Code.wp _ _ _ a4 w4
 refine wp_seq ?_
 refine region_St (bf := [0, 1]) (sp := [det _ 19 _, det _ 4 _]) [] mixed st4 (by kernel_rfl) trivial
  ⟨Ob.d fun c => r_move rfl (c.p e1),
  Ob.d fun c => r_assign rfl (c.n 0 rfl), trivial⟩ ?_
 intro a6 w6 τ6 st6 f6
 have e4 : get a6 4 = (.int .i64 ((m : Int))) := f6.v 1 rfl
 clear f6
 show Code.wp _ _ _ a6 w6
 refine wp_ret ?_
 repeat (first | with_reducible refine then_ret ?_ | with_reducible refine block_ret ?_)
 refine ret1 (fn := Try.f58) rfl st6.defers e4 ?_
 have h_ : (s.size : Int) ≤ (m : Int) ∨ inB (byteAt s (m : Int)) = false := by assumption
 have h2_ := tw_stop (s := s) (k := m) (h_.elim (fun h => .inl (by omega)) .inr)
 exact ⟨congrArg _ (int_eq (by unfold endF; omega)), st6.ext0⟩

set_option maxRecDepth 100000 in
theorem proper_c (s : ByteArray) (w : World) (hs : s.size ≤ 1000000000) : Calls Try.prog 51 #[(.string (s))] w (fun e w' => e = .returned (.bool (properB s)) ∧ Ext none' w w') := by
 refine enter (n := 18) Try.func51 rfl rfl (Nat.le_of_ble_eq_true rfl) ?_
 intro a0 τ0 ha st0
 have e0 : get a0 0 = (.string (s)) := ha 0 _ rfl
 clear ha
 refine wp_seq ?_
 refine region_St (bf := [0]) (sp := [det _ 2 _]) [] mixed st0 (by kernel_rfl) trivial
  ⟨Ob.d fun c => r_assign rfl rfl, trivial⟩ ?_
 intro a1 w1 τ1 st1 f1
 obtain ⟨e0, -⟩ := f1.ks [(0, _)] ⟨e0, trivial⟩
 have e2 : get a1 2 = (.bool (false)) := f1.v 0 rfl
 clear f1
 show Code.wp _ _ _ a1 w1
 refine wp_seq ?_
 refine region_St (bf := [0, 1, 3, 7, 15, 31, 63, 127, 255, 511, 1023, 511, 2559, 8191, 16383, 32767]) (sp := [det _ 3 _, det _ 4 _, det _ 5 _, gdet _ 6 _ _, gdet _ 7 _ _, gdet _ 8 _ _, gdet _ 9 _ _, det _ 10 _, det _ 11 _, gdet _ 12 _ _, gdet _ 13 _ _, gdet _ 14 _ _, gdet _ 15 _ _, gdet _ 16 _ _, det _ 17 _, det _ 2 _]) [] mixed st1 (by kernel_rfl) trivial
  ⟨Ob.d fun c => r_move rfl (c.p e0),
  Ob.d fun c => r_sneq rfl (c.n 0 rfl) rfl,
  Ob.d fun c => r_move rfl (c.n 1 rfl),
  Ob.g 2 true rfl fun c hpc => r_move rfl (c.p e0),
  Ob.g 2 true rfl fun c hpc => r_sindex rfl Try.underlying9 (c.m 3 rfl hpc) rfl (by have hq0 := hpc; (try simp only [Bool.not_eq_true', Bool.not_eq_false'] at hq0); first | omega | exact size_pos0 (by assumption)) (by have hq0 := hpc; (try simp only [Bool.not_eq_true', Bool.not_eq_false'] at hq0); first | omega | exact size_pos0 (by assumption)),
  Ob.gc 2 true rfl fun c hpc => ⟨_, _, (e_call1 rfl rfl Try.call57 (c.m 4 rfl hpc)), inside_c (byteAt s (0)) _⟩,
  Ob.g 2 true rfl fun c hpc => r_not rfl (c.m 5 rfl hpc),
  Ob.d fun c => r_and rfl (c.n 2 rfl) (fun h => c.m 6 rfl h),
  Ob.d fun c => r_move rfl (c.n 7 rfl),
  Ob.g 8 true rfl fun c hpc => r_move rfl (c.p e0),
  Ob.gc 8 true rfl fun c hpc => ⟨_, _, (e_call2 rfl rfl Try.call58 (c.m 9 rfl hpc) rfl), end_c s 0 _ (by have hq0 := hpc; (try simp only [Bool.and_eq_true, Bool.and_eq_false_iff, Bool.not_eq_true', Bool.not_eq_false'] at hq0); first | omega | exact size_pos0 (by assumption)) (by have hq0 := hpc; (try simp only [Bool.and_eq_true, Bool.and_eq_false_iff, Bool.not_eq_true', Bool.not_eq_false'] at hq0); first | omega | exact size_pos0 (by assumption))⟩,
  Ob.g 8 true rfl fun c hpc => r_move rfl (c.p e0),
  Ob.g 8 true rfl fun c hpc => r_lenS rfl Try.underlying9 (c.m 11 rfl hpc),
  Ob.g 8 true rfl fun c hpc => r_eql rfl (c.m 10 rfl hpc) (c.m 12 rfl hpc),
  Ob.d fun c => r_and rfl (c.n 8 rfl) (fun h => c.m 13 rfl h),
  Ob.d fun c => r_assign rfl (c.n 14 rfl), trivial⟩ ?_
 intro a2 w2 τ2 st2 f2
 have e2 : get a2 2 = (.bool (((!(eqT s (⟨#[]⟩ : ByteArray))) && (!(inB (byteAt s (0))))) && (decide (((endF s 0 : Nat) : Int) = (s.size : Int))))) := f2.v 15 rfl
 clear f2
 show Code.wp _ _ _ a2 w2
 refine wp_ret ?_
 repeat (first | with_reducible refine then_ret ?_ | with_reducible refine block_ret ?_)
 refine ret1 (fn := Try.f51) rfl st2.defers e2 ?_
 exact ⟨congrArg _ (congrArg _ (proper_eq s)), st2.ext0⟩

set_option maxRecDepth 100000 in
theorem split_c (s : ByteArray) (w : World) (hs : s.size ≤ 1000000000) : Calls Try.prog 38 #[(.string (s))] w (fun e w' => ∃ v', e = .returned v' ∧ Ext none' w w' ∧ NewT StrE 9 w w' v' (splitF s)) := by
 refine enter (n := 31) Try.func38 rfl rfl (Nat.le_of_ble_eq_true rfl) ?_
 intro a0 τ0 ha st0
 have e0 : get a0 0 = (.string (s)) := ha 0 _ rfl
 clear ha
 refine wp_seq ?_
 refine region_St (bf := [0]) (sp := [det _ 2 _]) [] mixed st0 (by kernel_rfl) trivial
  ⟨Ob.d fun c => r_assign rfl rfl, trivial⟩ ?_
 intro a1 w1 τ1 st1 f1
 obtain ⟨e0, -⟩ := f1.ks [(0, _)] ⟨e0, trivial⟩
 have e2 : get a1 2 = (.slice none 0 0) := f1.v 0 rfl
 clear f1
 show Code.wp _ _ _ a1 w1
 refine wp_seq ?_
 refine region_St (bf := [0]) (sp := [det _ 3 _]) [] mixed st1 (by kernel_rfl) trivial
  ⟨Ob.d fun c => r_assign rfl rfl, trivial⟩ ?_
 intro a2 w2 τ2 st2 f2
 obtain ⟨e0, e2, -⟩ := f2.ks [(0, _), (2, _)] ⟨e0, e2, trivial⟩
 have e3 : get a2 3 = (.slice none 0 0) := f2.v 0 rfl
 clear f2
 show Code.wp _ _ _ a2 w2
 refine wp_seq ?_
 refine region_St (bf := [0]) (sp := [det _ 4 _]) [] mixed st2 (by kernel_rfl) trivial
  ⟨Ob.d fun c => r_assign rfl rfl, trivial⟩ ?_
 intro a3 w3 τ3 st3 f3
 obtain ⟨e0, e2, e3, -⟩ := f3.ks [(0, _), (2, _), (3, _)] ⟨e0, e2, e3, trivial⟩
 have e4 : get a3 4 = (.int .i64 (0)) := f3.v 0 rfl
 clear f3
 show Code.wp _ _ _ a3 w3
 refine wp_seq ?_
 refine wp_seq ?_
 refine region_St (bf := [0]) (sp := [det _ 5 _]) [] mixed st3 (by kernel_rfl) trivial
  ⟨Ob.d fun c => r_assign rfl rfl, trivial⟩ ?_
 intro a4 w4 τ4 st4 f4
 obtain ⟨e0, e2, e3, e4, -⟩ := f4.ks [(0, _), (2, _), (3, _), (4, _)] ⟨e0, e2, e3, e4, trivial⟩
 have e5 : get a4 5 = (.int .i64 (1)) := f4.v 0 rfl
 clear f4
 show Code.wp _ _ _ a4 w4
 refine wp_block ?_
 refine wp_loop (fun a_ w_ => ∃ (k : Nat) (u : Value) (τ : Nat → Foot), (k ≤ s.size) ∧
      St (Nw w) w 31 a_ w_ τ ∧
      get a_ 3 = u ∧
      get a_ 4 = (.int .i64 (((spS s k).2 : Int))) ∧
      get a_ 5 = (.int .i64 ((k : Int) + 1)) ∧
      get a_ 0 = (.string (s)) ∧
      get a_ 2 = (.slice none 0 0) ∧
      ownR StrE 9 ((spS s k).1) (τ 0) u w_) (fun a_ _ => s.size + 1 - (intOf (get a_ 5)).toNat) ?_ ?_
 · refine ⟨0, (.slice none 0 0), τ4, ?_, st4, e3, (e4.trans (int_eq (by first | omega | rfl | (rw [spS_miss2 (by assumption)]) | (rw [spS_hit2 (by assumption)]; omega)))), (e5.trans (int_eq (by first | omega | rfl | (rw [spS_miss2 (by assumption)]) | (rw [spS_hit2 (by assumption)]; omega)))), e0, e2, ?_⟩
   · omega
   · exact ownR.nil _ _ _ _
 intro a5 w5 hI
 obtain ⟨k, u, τ5, q0, st5, e3, e4, e5, e0, e2, r0⟩ := hI
 have hfr := spS_from s k
 have hln := spS_len s k
 have m5 := e5
 refine wp_seq ?_
 refine wp_seq ?_
 refine region_St (bf := [0, 0, 2, 7]) (sp := [det _ 6 _, det _ 7 _, det _ 8 _, det _ 9 _]) [io r0] mixed st5 (by kernel_rfl) ⟨r0, trivial⟩
  ⟨Ob.d fun c => r_move rfl (c.p e5),
  Ob.d fun c => r_move rfl (c.p e0),
  Ob.d fun c => r_lenS rfl Try.underlying9 (c.n 1 rfl),
  Ob.d fun c => r_leq rfl (c.n 0 rfl) (c.n 2 rfl), trivial⟩ ?_
 intro a6 w6 τ6 st6 f6
 obtain ⟨e0, e2, e3, e4, e5, -⟩ := f6.ks [(0, _), (2, _), (3, _), (4, _), (5, _)] ⟨e0, e2, e3, e4, e5, trivial⟩
 have e9 : get a6 9 = (.bool (decide ((k : Int) + 1 ≤ (s.size : Int)))) := f6.v 3 rfl
 replace r0 := f6.io 0 rfl
 clear f6
 show Code.wp _ _ _ a6 w6
 refine wp_cond_split (t := decide ((k : Int) + 1 ≤ (s.size : Int))) e9 (fun hc1 => ?_) (fun hc1 => ?_)
 · try simp only [decide_eq_true_eq] at hc1
   refine wp_skip ?_
   show Code.wp _ _ _ a6 w6
   refine wp_seq ?_
   refine wp_block ?_
   refine wp_seq ?_
   refine region_St (bf := [0, 0, 2, 7, 15, 31, 31, 127, 255, 511]) (sp := [det _ 12 _, det _ 13 _, det _ 14 _, det _ 15 _, det _ 16 _, gdet _ 17 _ _, gdet _ 18 _ _, gdet _ 19 _ _, gdet _ 20 _ _, det _ 21 _]) [io r0] mixed st6 (by kernel_rfl) ⟨r0, trivial⟩
    ⟨Ob.d fun c => r_move rfl (c.p e5),
    Ob.d fun c => r_move rfl (c.p e0),
    Ob.d fun c => r_lenS rfl Try.underlying9 (c.n 1 rfl),
    Ob.d fun c => r_eql rfl (c.n 0 rfl) (c.n 2 rfl),
    Ob.d fun c => r_move rfl (c.n 3 rfl),
    Ob.g 4 false rfl fun c hpc => r_move rfl (c.p e0),
    Ob.g 4 false rfl fun c hpc => r_move rfl (c.p e5),
    Ob.g 4 false rfl fun c hpc => r_sindex rfl Try.underlying9 (c.m 5 rfl hpc) (c.m 6 rfl hpc) (by have hq0 := bn hpc; omega) (by have hq0 := bn hpc; omega),
    Ob.gc 4 false rfl fun c hpc => ⟨_, _, (e_call1 rfl rfl Try.call46 (c.m 7 rfl hpc)), lead_c (byteAt s ((k : Int) + 1)) _⟩,
    Ob.d fun c => r_or rfl (c.n 4 rfl) (fun h => c.m 8 rfl h), trivial⟩ ?_
   intro a7 w7 τ7 st7 f7
   obtain ⟨e0, e2, e3, e4, e5, e9, -⟩ := f7.ks [(0, _), (2, _), (3, _), (4, _), (5, _), (9, _)] ⟨e0, e2, e3, e4, e5, e9, trivial⟩
   have e21 : get a7 21 = (.bool ((decide ((k : Int) + 1 = (s.size : Int))) || (leadB (byteAt s ((k : Int) + 1))))) := f7.v 9 rfl
   replace r0 := f7.io 0 rfl
   clear f7
   show Code.wp _ _ _ a7 w7
   refine wp_cond_split (t := (decide ((k : Int) + 1 = (s.size : Int))) || (leadB (byteAt s ((k : Int) + 1)))) e21 (fun hc2 => ?_) (fun hc2 => ?_)
   · have hd2 := hc2; try simp only [Bool.or_eq_true, decide_eq_true_eq] at hd2
     refine wp_seq ?_
     refine region_St (bf := [0, 0, 0, 0, 14, 30, 63, 127]) (sp := [det _ 22 _, det _ 23 _, det _ 24 _, det _ 25 _, det _ 26 _, own StrE 9 _ 1 27 ([s.extract ((spS s k).2 : Int).toNat ((k : Int) + 1).toNat]), own _ _ _ 0 28 _, own _ _ _ 0 3 _]) [io r0] mixed st7 (by kernel_rfl) ⟨r0, trivial⟩
      ⟨Ob.d fun c => r_move rfl (c.p e3),
      Ob.d fun c => r_move rfl (c.p e0),
      Ob.d fun c => r_move rfl (c.p e4),
      Ob.d fun c => r_move rfl (c.p e5),
      Ob.d fun c => r_sub2 (s := s) (p := ((spS s k).2 : Int)) (q := (k : Int) + 1) rfl Try.underlying9 (c.n 1 rfl) (c.n 2 rfl) (c.n 3 rfl) (by omega) (by omega) (by omega),
      Ob.buildSlice (cells := #[(.string (s.extract ((spS s k).2 : Int).toNat ((k : Int) + 1).toNat))]) rfl rfl rfl rfl Try.underlying32 Try.sizeOf9 Try.zeroValue9 rfl (by decide) (by decide) (fun _ _ _ _ c => fill1 (c.n 4 rfl) (by kernel_rfl)) rfl,
      Ob.append (t0 := 3) rfl rfl rfl rfl Try.underlying32 (i := Try.t9) rfl rfl rfl rfl (by simp only [maxLen]; (try simp); omega) (by show _ * 16 ≤ _; (try simp); omega) (fun _ _ _ _ c => ⟨c.ip 0 rfl e3, c.sm (c.n 0 rfl) e3, ⟨_, rfl, (c.ro 5 rfl).1.sl⟩⟩),
      Ob.moveT (t0 := 28) rfl rfl rfl rfl rfl (.inr rfl) (fun _ _ _ _ c => ⟨c.ro 6 rfl, rfl⟩), trivial⟩ ?_
     intro a8 w8 τ8 st8 f8
     obtain ⟨b8x27, e27⟩ : ∃ b, get a8 27 = b := ⟨_, rfl⟩
     obtain ⟨b8x3, e3⟩ : ∃ b, get a8 3 = b := ⟨_, rfl⟩
     obtain ⟨e0, e2, e4, e5, e9, e21, -⟩ := f8.ks [(0, _), (2, _), (4, _), (5, _), (9, _), (21, _)] ⟨e0, e2, e4, e5, e9, e21, trivial⟩
     replace r0 : ownR StrE 9 (((spS s k).1) ++ ([s.extract ((spS s k).2 : Int).toNat ((k : Int) + 1).toNat])) (τ8 0) b8x3 w8 := f8.ro 7 e3 rfl
     have r1 : ownR StrE 9 ([s.extract ((spS s k).2 : Int).toNat ((k : Int) + 1).toNat]) (τ8 1) b8x27 w8 := f8.ro 5 e27 rfl
     clear f8
     show Code.wp _ _ _ a8 w8
     refine region_St (bf := [0, 1]) (sp := [det _ 29 _, det _ 4 _]) [io r0, io r1] mixed st8 (by kernel_rfl) ⟨r0, r1, trivial⟩
      ⟨Ob.d fun c => r_move rfl (c.p e5),
      Ob.d fun c => r_assign rfl (c.n 0 rfl), trivial⟩ ?_
     intro a9 w9 τ9 st9 f9
     obtain ⟨e0, e2, e3, e5, e9, e21, -⟩ := f9.ks [(0, _), (2, _), (3, _), (5, _), (9, _), (21, _)] ⟨e0, e2, e3, e5, e9, e21, trivial⟩
     have e4 : get a9 4 = (.int .i64 ((k : Int) + 1)) := f9.v 1 rfl
     replace r0 := f9.io 0 rfl
     replace r1 := f9.io 1 rfl
     clear f9
     show _
     show Code.wp _ _ _ a9 w9
     refine region_St (bf := [0, 1, 3]) (sp := [det _ 10 _, det _ 11 _, det _ 5 _]) [io r0, io r1] mixed st9 (by kernel_rfl) ⟨r0, r1, trivial⟩
      ⟨Ob.d fun c => r_move rfl (c.p e5),
      Ob.d fun c => r_add rfl (c.n 0 rfl) rfl (by omega),
      Ob.d fun c => r_assign rfl (c.n 1 rfl), trivial⟩ ?_
     intro a10 w10 τ10 st10 f10
     obtain ⟨e0, e2, e3, e4, e9, e21, -⟩ := f10.ks [(0, _), (2, _), (3, _), (4, _), (9, _), (21, _)] ⟨e0, e2, e3, e4, e9, e21, trivial⟩
     have e5 : get a10 5 = (.int .i64 ((k : Int) + 1 + 1)) := f10.v 2 rfl
     replace r0 := f10.io 0 rfl
     replace r1 := f10.io 1 rfl
     clear f10
     refine ⟨⟨k + 1, b8x3, τ10, ?_, st10, e3, (e4.trans (int_eq (by first | omega | rfl | (rw [spS_miss2 (by assumption)]) | (rw [spS_hit2 (by assumption)]; omega)))), (e5.trans (int_eq (by first | omega | rfl | (rw [spS_miss2 (by assumption)]) | (rw [spS_hit2 (by assumption)]; omega)))), e0, e2, ?_⟩, ?_⟩
     · omega
     · exact r0.cast (by first | exact spS_hit (by assumption) | exact spS_miss (by assumption))
     · simp only [m5, e5, intOf]; omega
   have hd2 := hc2; try simp only [Bool.or_eq_false_iff, decide_eq_false_iff_not] at hd2
   refine wp_skip ?_
   show _
   show Code.wp _ _ _ a7 w7
   refine region_St (bf := [0, 1, 3]) (sp := [det _ 10 _, det _ 11 _, det _ 5 _]) [io r0] mixed st7 (by kernel_rfl) ⟨r0, trivial⟩
    ⟨Ob.d fun c => r_move rfl (c.p e5),
    Ob.d fun c => r_add rfl (c.n 0 rfl) rfl (by omega),
    Ob.d fun c => r_assign rfl (c.n 1 rfl), trivial⟩ ?_
   intro a11 w11 τ11 st11 f11
   obtain ⟨e0, e2, e3, e4, e9, e21, -⟩ := f11.ks [(0, _), (2, _), (3, _), (4, _), (9, _), (21, _)] ⟨e0, e2, e3, e4, e9, e21, trivial⟩
   have e5 : get a11 5 = (.int .i64 ((k : Int) + 1 + 1)) := f11.v 2 rfl
   replace r0 := f11.io 0 rfl
   clear f11
   refine ⟨⟨k + 1, u, τ11, ?_, st11, e3, (e4.trans (int_eq (by first | omega | rfl | (rw [spS_miss2 (by assumption)]) | (rw [spS_hit2 (by assumption)]; omega)))), (e5.trans (int_eq (by first | omega | rfl | (rw [spS_miss2 (by assumption)]) | (rw [spS_hit2 (by assumption)]; omega)))), e0, e2, ?_⟩, ?_⟩
   · omega
   · exact r0.cast (by first | exact spS_hit (by assumption) | exact spS_miss (by assumption))
   · simp only [m5, e5, intOf]; omega
 try simp only [decide_eq_false_iff_not, Int.not_le] at hc1
 refine wp_exit ?_
 repeat (with_reducible refine then_exit ?_)
 refine exit_here ?_
 show Code.wp _ _ _ a6 w6
 refine wp_seq ?_
 refine region_St (bf := [0, 1]) (sp := [det _ 30 _, det _ 2 _]) [io r0] mixed st6 (by kernel_rfl) ⟨r0, trivial⟩
  ⟨Ob.d fun c => r_move rfl (c.p e3),
  Ob.d fun c => r_assign rfl (c.n 0 rfl), trivial⟩ ?_
 intro a12 w12 τ12 st12 f12
 have e2 : get a12 2 = u := f12.v 1 rfl
 replace r0 := f12.io 0 rfl
 clear f12
 show Code.wp _ _ _ a12 w12
 refine wp_ret ?_
 repeat (first | with_reducible refine then_ret ?_ | with_reducible refine block_ret ?_)
 refine ret1 (fn := Try.f38) rfl st12.defers e2 ?_
 replace r0 := r0.cast (show splitF s = _ from by rw [splitF, show s.size = k by omega])
 exact ⟨_, rfl, st12.ext0, r0.1, fun g_ h_ => (st12.bnd _ g_ (r0.2 g_ h_)).1⟩

set_option maxRecDepth 100000 in
theorem refProper_c (s : ByteArray) (w : World) (hs : s.size ≤ 1000000000) : Calls Try.prog 42 #[(.string (s))] w (fun e w' => e = .returned (.bool (properB s)) ∧ Ext none' w w') := by
 refine enter (n := 17) Try.func42 rfl rfl (Nat.le_of_ble_eq_true rfl) ?_
 intro a0 τ0 ha st0
 have e0 : get a0 0 = (.string (s)) := ha 0 _ rfl
 clear ha
 refine wp_seq ?_
 refine region_St (bf := [0]) (sp := [det _ 2 _]) [] mixed st0 (by kernel_rfl) trivial
  ⟨Ob.d fun c => r_assign rfl rfl, trivial⟩ ?_
 intro a1 w1 τ1 st1 f1
 obtain ⟨e0, -⟩ := f1.ks [(0, _)] ⟨e0, trivial⟩
 have e2 : get a1 2 = (.bool (false)) := f1.v 0 rfl
 clear f1
 show Code.wp _ _ _ a1 w1
 refine wp_seq ?_
 refine region_St (bf := [0, 1, 3, 7, 15, 31, 63, 127, 255, 511, 1023, 2047, 4095, 8191, 16383]) (sp := [det _ 3 _, det _ 4 _, det _ 5 _, det _ 6 _, gdet _ 7 _ _, gdet _ 8 _ _, gdet _ 9 _ _, det _ 10 _, det _ 11 _, gdet _ 12 _ _, gown (((decide (0 < (s.size : Int))) && (leadB (byteAt s (0)))) = true) StrE 9 (Nw w) 0 13 (splitF s), gdet _ 14 _ _, gdet _ 15 _ _, det _ 16 _, det _ 2 _]) [] mixed st1 (by kernel_rfl) trivial
  ⟨Ob.d fun c => r_move rfl (c.p e0),
  Ob.d fun c => r_lenS rfl Try.underlying9 (c.n 0 rfl),
  Ob.d fun c => r_gtr rfl (c.n 1 rfl) rfl,
  Ob.d fun c => r_move rfl (c.n 2 rfl),
  Ob.g 3 true rfl fun c hpc => r_move rfl (c.p e0),
  Ob.g 3 true rfl fun c hpc => r_sindex rfl Try.underlying9 (c.m 4 rfl hpc) rfl (by have hq0 := bt hpc; omega) (by have hq0 := bt hpc; omega),
  Ob.gc 3 true rfl fun c hpc => ⟨_, _, (e_call1 rfl rfl Try.call46 (c.m 5 rfl hpc)), lead_c (byteAt s (0)) _⟩,
  Ob.d fun c => r_and rfl (c.n 3 rfl) (fun h => c.m 6 rfl h),
  Ob.d fun c => r_move rfl (c.n 7 rfl),
  Ob.g 8 true rfl fun c hpc => r_move rfl (c.p e0),
  Ob.gown (gi := 8) (tg := 11) rfl rfl rfl rfl rfl rfl Iff.rfl (fun hpc => Ob.callOwn rfl rfl rfl (fun _ a_ _ _ c => ⟨_, _, (e_call1 rfl rfl Try.call38 (c.m 9 rfl hpc)), split_c s _ (by have hq0 := hpc; (try simp only [Bool.and_eq_true, decide_eq_true_eq] at hq0); omega)⟩)),
  Ob.g 8 true rfl fun c hpc => r_len rfl Try.underlying32 rfl (c.rg 10 rfl hpc).isSl,
  Ob.g 8 true rfl fun c hpc => r_eql rfl (c.m 11 rfl hpc) rfl,
  Ob.d fun c => r_and rfl (c.n 8 rfl) (fun h => c.m 12 rfl h),
  Ob.d fun c => r_assign rfl (c.n 13 rfl), trivial⟩ ?_
 intro a2 w2 τ2 st2 f2
 have e2 : get a2 2 = (.bool (((decide (0 < (s.size : Int))) && (leadB (byteAt s (0)))) && (decide (((splitF s).length : Int) = 1)))) := f2.v 14 rfl
 clear f2
 show Code.wp _ _ _ a2 w2
 refine wp_ret ?_
 repeat (first | with_reducible refine then_ret ?_ | with_reducible refine block_ret ?_)
 refine ret1 (fn := Try.f42) rfl st2.defers e2 ?_
 exact ⟨congrArg _ (congrArg _ (refProper_eq s)), st2.ext0⟩
end B
end Go.Proofs.Ytocmchlhbniloaa
