/-
  Walks, printed by a program (gen.py): TurnW.
-/
import Derived.Test.YtjmnenjejgahjaaGreatDoorChecked
import Derived.Test.YtjmnenjejgahjaaGreatDoorTurnX
set_option linter.unusedSimpArgs false
set_option linter.unusedVariables false
namespace Go.Proofs.YtjmnenjejgahjaaGreatDoor
namespace B
open Go.RowKit
theorem mixed : Tryz.prog.follows .mixedOrders = true := by kernel_rfl
set_option maxRecDepth 100000 in
theorem turn_c (s t : ByteArray) (w : World) (hs : s.size ≤ 1000000000) (ht : t.size ≤ 1000000000) : Calls Tryz.prog 64 #[(.string (s)), (.string (t))] w (fun e w' => e = .returned (.agg #[.int .i64 ((X.frF s.data.toList t.data.toList : Nat) : Int), .int .i64 ((s.size : Int) - ((X.enF s.data.toList t.data.toList : Nat) : Int)), .string (t.extract (X.frF s.data.toList t.data.toList) (t.size - X.enF s.data.toList t.data.toList))]) ∧ Ext none' w w') := by
 refine enter (n := 75) Tryz.func64 rfl rfl (Nat.le_of_ble_eq_true rfl) ?_
 intro a0 τ0 ha st0
 have e0 : get a0 0 = (.string (s)) := ha 0 _ rfl
 have e1 : get a0 1 = (.string (t)) := ha 1 _ rfl
 clear ha
 refine wp_seq ?_
 refine region_St (bf := [0]) (sp := [box _ _ 0 4 [(.int .i64 (0)), (.int .i64 (0)), (.string ((⟨#[]⟩ : ByteArray)))]]) [] mixed st0 (by kernel_rfl) trivial
  ⟨Ob.alloc rfl rfl rfl rfl Tryz.zeroValue142 rfl, trivial⟩ ?_
 intro a1 w1 τ1 st1 f1
 obtain ⟨b1x4, e4⟩ : ∃ b, get a1 4 = b := ⟨_, rfl⟩
 obtain ⟨e0, e1, -⟩ := f1.ks [(0, _), (1, _)] ⟨e0, e1, trivial⟩
 have r0 : boxR 142 [(.int .i64 (0)), (.int .i64 (0)), (.string ((⟨#[]⟩ : ByteArray)))] (τ1 0) b1x4 w1 := f1.rb 0 e4 rfl
 clear f1
 show Code.wp _ _ _ a1 w1
 refine wp_seq ?_
 refine region_St (bf := [0]) (sp := [det _ 5 _]) [ib r0] mixed st1 (by kernel_rfl) ⟨r0, trivial⟩
  ⟨Ob.d fun c => r_assign rfl rfl, trivial⟩ ?_
 intro a2 w2 τ2 st2 f2
 obtain ⟨e0, e1, e4, -⟩ := f2.ks [(0, _), (1, _), (4, _)] ⟨e0, e1, e4, trivial⟩
 have e5 : get a2 5 = (.int .i64 (0)) := f2.v 0 rfl
 replace r0 := f2.ib 0 rfl
 clear f2
 show Code.wp _ _ _ a2 w2
 refine wp_seq ?_
 refine wp_block ?_
 refine wp_loop (fun a_ w_ => ∃ (i : Nat) (τ : Nat → Foot), (i ≤ s.size) ∧
      (i ≤ t.size) ∧
      (X.frF s.data.toList t.data.toList = i + X.lcpL (s.data.toList.drop i) (t.data.toList.drop i)) ∧
      St (Nw w) w 75 a_ w_ τ ∧
      get a_ 5 = (.int .i64 ((i : Int))) ∧
      get a_ 0 = (.string (s)) ∧
      get a_ 1 = (.string (t)) ∧
      get a_ 4 = b1x4 ∧
      boxR 142 [(.int .i64 (0)), (.int .i64 (0)), (.string ((⟨#[]⟩ : ByteArray)))] (τ 0) b1x4 w_) (fun a_ _ => s.size - (intOf (get a_ 5)).toNat) ?_ ?_
 · refine ⟨0, τ2, ?_, ?_, ?_, st2, (e5.trans (int_eq (by omega))), e0, e1, e4, r0⟩
   · omega
   · omega
   · simp [X.frF]
 intro a3 w3 hI
 obtain ⟨i, τ3, q0, q1, q2, st3, e5, e0, e1, e4, r0⟩ := hI
 have m5 := e5
 refine wp_seq ?_
 refine wp_seq ?_
 refine region_St (bf := [0, 0, 2, 7, 15, 31, 31, 95, 255, 511, 1023, 2047, 2047, 8191, 2047, 2047, 51199, 131071, 262143]) (sp := [det _ 7 _, det _ 8 _, det _ 9 _, det _ 10 _, det _ 11 _, gdet _ 12 _ _, gdet _ 13 _ _, gdet _ 14 _ _, gdet _ 15 _ _, det _ 16 _, det _ 17 _, gdet _ 18 _ _, gdet _ 19 _ _, gdet _ 20 _ _, gdet _ 21 _ _, gdet _ 22 _ _, gdet _ 23 _ _, gdet _ 24 _ _, det _ 25 _]) [ib r0] mixed st3 (by kernel_rfl) ⟨r0, trivial⟩
  ⟨Ob.d fun c => r_move rfl (c.p e5),
  Ob.d fun c => r_move rfl (c.p e0),
  Ob.d fun c => r_lenS rfl Tryz.underlying9 (c.n 1 rfl),
  Ob.d fun c => r_lss rfl (c.n 0 rfl) (c.n 2 rfl),
  Ob.d fun c => r_move rfl (c.n 3 rfl),
  Ob.g 4 true rfl fun c hpc => r_move rfl (c.p e5),
  Ob.g 4 true rfl fun c hpc => r_move rfl (c.p e1),
  Ob.g 4 true rfl fun c hpc => r_lenS rfl Tryz.underlying9 (c.m 6 rfl hpc),
  Ob.g 4 true rfl fun c hpc => r_lss rfl (c.m 5 rfl hpc) (c.m 7 rfl hpc),
  Ob.d fun c => r_and rfl (c.n 4 rfl) (fun h => c.m 8 rfl h),
  Ob.d fun c => r_move rfl (c.n 9 rfl),
  Ob.g 10 true rfl fun c hpc => r_move rfl (c.p e0),
  Ob.g 10 true rfl fun c hpc => r_move rfl (c.p e5),
  Ob.g 10 true rfl fun c hpc => r_sindex rfl Tryz.underlying9 (c.m 11 rfl hpc) (c.m 12 rfl hpc) (by have hq0 := hpc; (try simp only [Bool.and_eq_true, decide_eq_true_eq] at hq0); omega) (by have hq0 := hpc; (try simp only [Bool.and_eq_true, decide_eq_true_eq] at hq0); omega),
  Ob.g 10 true rfl fun c hpc => r_move rfl (c.p e1),
  Ob.g 10 true rfl fun c hpc => r_move rfl (c.p e5),
  Ob.g 10 true rfl fun c hpc => r_sindex rfl Tryz.underlying9 (c.m 14 rfl hpc) (c.m 15 rfl hpc) (by have hq0 := hpc; (try simp only [Bool.and_eq_true, decide_eq_true_eq] at hq0); omega) (by have hq0 := hpc; (try simp only [Bool.and_eq_true, decide_eq_true_eq] at hq0); omega),
  Ob.g 10 true rfl fun c hpc => r_eql rfl (c.m 13 rfl hpc) (c.m 16 rfl hpc),
  Ob.d fun c => r_and rfl (c.n 10 rfl) (fun h => c.m 17 rfl h), trivial⟩ ?_
 intro a4 w4 τ4 st4 f4
 obtain ⟨e0, e1, e4, e5, -⟩ := f4.ks [(0, _), (1, _), (4, _), (5, _)] ⟨e0, e1, e4, e5, trivial⟩
 have e25 : get a4 25 = (.bool (((decide ((i : Int) < (s.size : Int))) && (decide ((i : Int) < (t.size : Int)))) && (decide (byteAt s ((i : Int)) = byteAt t ((i : Int)))))) := f4.v 18 rfl
 replace r0 := f4.ib 0 rfl
 clear f4
 show Code.wp _ _ _ a4 w4
 refine wp_cond_split (t := ((decide ((i : Int) < (s.size : Int))) && (decide ((i : Int) < (t.size : Int)))) && (decide (byteAt s ((i : Int)) = byteAt t ((i : Int))))) e25 (fun hc1 => ?_) (fun hc1 => ?_)
 · try simp only [Bool.and_eq_true, decide_eq_true_eq] at hc1
   refine wp_skip ?_
   show Code.wp _ _ _ a4 w4
   refine wp_block ?_
   refine region_St (bf := [0, 1, 3]) (sp := [det _ 26 _, det _ 27 _, det _ 5 _]) [ib r0] mixed st4 (by kernel_rfl) ⟨r0, trivial⟩
    ⟨Ob.d fun c => r_move rfl (c.p e5),
    Ob.d fun c => r_add rfl (c.n 0 rfl) rfl (by omega),
    Ob.d fun c => r_assign rfl (c.n 1 rfl), trivial⟩ ?_
   intro a5 w5 τ5 st5 f5
   obtain ⟨e0, e1, e4, e25, -⟩ := f5.ks [(0, _), (1, _), (4, _), (25, _)] ⟨e0, e1, e4, e25, trivial⟩
   have e5 : get a5 5 = (.int .i64 ((i : Int) + 1)) := f5.v 2 rfl
   replace r0 := f5.ib 0 rfl
   clear f5
   show _
   refine ⟨⟨i + 1, τ5, ?_, ?_, ?_, st5, (e5.trans (int_eq (by omega))), e0, e1, e4, r0⟩, ?_⟩
   · omega
   · omega
   · exact turn_n1 q2 (by assumption)
   · simp only [m5, e5, intOf]; omega
 try simp only [Bool.and_eq_false_iff, decide_eq_false_iff_not, Int.not_lt] at hc1
 refine wp_exit ?_
 repeat (with_reducible refine then_exit ?_)
 refine exit_here ?_
 show Code.wp _ _ _ a4 w4
 refine wp_seq ?_
 have hfr : i = X.frF s.data.toList t.data.toList := turn_fr q2 (by assumption)
 refine region_St (bf := [0]) (sp := [det _ 6 _]) [ib r0] mixed st4 (by kernel_rfl) ⟨r0, trivial⟩
  ⟨Ob.d fun c => r_assign rfl rfl, trivial⟩ ?_
 intro a6 w6 τ6 st6 f6
 obtain ⟨e0, e1, e4, e5, -⟩ := f6.ks [(0, _), (1, _), (4, _), (5, _)] ⟨e0, e1, e4, e5, trivial⟩
 have e6 : get a6 6 = (.int .i64 (0)) := f6.v 0 rfl
 replace r0 := f6.ib 0 rfl
 clear f6
 show Code.wp _ _ _ a6 w6
 refine wp_seq ?_
 refine wp_block ?_
 refine wp_loop (fun a_ w_ => ∃ (j : Nat) (τ : Nat → Foot), (i + j ≤ s.size) ∧
      (i + j ≤ t.size) ∧
      (X.enF s.data.toList t.data.toList = j + X.lcpL ((s.data.toList.drop i).reverse.drop j) ((t.data.toList.drop i).reverse.drop j)) ∧
      St (Nw w) w 75 a_ w_ τ ∧
      get a_ 6 = (.int .i64 ((j : Int))) ∧
      get a_ 0 = (.string (s)) ∧
      get a_ 1 = (.string (t)) ∧
      get a_ 4 = b1x4 ∧
      get a_ 5 = (.int .i64 ((i : Int))) ∧
      boxR 142 [(.int .i64 (0)), (.int .i64 (0)), (.string ((⟨#[]⟩ : ByteArray)))] (τ 0) b1x4 w_) (fun a_ _ => s.size - (intOf (get a_ 6)).toNat) ?_ ?_
 · refine ⟨0, τ6, ?_, ?_, ?_, st6, (e6.trans (int_eq (by omega))), e0, e1, e4, e5, r0⟩
   · omega
   · omega
   · rw [hfr]; simp [X.enF]
 intro a7 w7 hI
 obtain ⟨j, τ7, q0, q1, q2, st7, e6, e0, e1, e4, e5, r0⟩ := hI
 have m6 := e6
 refine wp_seq ?_
 refine wp_seq ?_
 refine region_St (bf := [0, 0, 2, 0, 14, 31, 63, 127, 127, 383, 127, 1919, 4095, 8191, 16383, 32767, 32767, 98303, 229375, 32767, 1015807, 2097151, 32767, 32767, 8421375, 25198591, 32767, 125861887, 264273919, 536870911, 1073741823]) (sp := [det _ 28 _, det _ 29 _, det _ 30 _, det _ 31 _, det _ 32 _, det _ 33 _, det _ 34 _, gdet _ 35 _ _, gdet _ 36 _ _, gdet _ 37 _ _, gdet _ 38 _ _, gdet _ 39 _ _, gdet _ 40 _ _, det _ 41 _, det _ 42 _, gdet _ 43 _ _, gdet _ 44 _ _, gdet _ 45 _ _, gdet _ 46 _ _, gdet _ 47 _ _, gdet _ 48 _ _, gdet _ 49 _ _, gdet _ 50 _ _, gdet _ 51 _ _, gdet _ 52 _ _, gdet _ 53 _ _, gdet _ 54 _ _, gdet _ 55 _ _, gdet _ 56 _ _, gdet _ 57 _ _, det _ 58 _]) [ib r0] mixed st7 (by kernel_rfl) ⟨r0, trivial⟩
  ⟨Ob.d fun c => r_move rfl (c.p e6),
  Ob.d fun c => r_move rfl (c.p e0),
  Ob.d fun c => r_lenS rfl Tryz.underlying9 (c.n 1 rfl),
  Ob.d fun c => r_move rfl (c.p e5),
  Ob.d fun c => r_sub rfl (c.n 2 rfl) (c.n 3 rfl) (by omega),
  Ob.d fun c => r_lss rfl (c.n 0 rfl) (c.n 4 rfl),
  Ob.d fun c => r_move rfl (c.n 5 rfl),
  Ob.g 6 true rfl fun c hpc => r_move rfl (c.p e6),
  Ob.g 6 true rfl fun c hpc => r_move rfl (c.p e1),
  Ob.g 6 true rfl fun c hpc => r_lenS rfl Tryz.underlying9 (c.m 8 rfl hpc),
  Ob.g 6 true rfl fun c hpc => r_move rfl (c.p e5),
  Ob.g 6 true rfl fun c hpc => r_sub rfl (c.m 9 rfl hpc) (c.m 10 rfl hpc) (by have hq0 := bt hpc; omega),
  Ob.g 6 true rfl fun c hpc => r_lss rfl (c.m 7 rfl hpc) (c.m 11 rfl hpc),
  Ob.d fun c => r_and rfl (c.n 6 rfl) (fun h => c.m 12 rfl h),
  Ob.d fun c => r_move rfl (c.n 13 rfl),
  Ob.g 14 true rfl fun c hpc => r_move rfl (c.p e0),
  Ob.g 14 true rfl fun c hpc => r_move rfl (c.p e0),
  Ob.g 14 true rfl fun c hpc => r_lenS rfl Tryz.underlying9 (c.m 16 rfl hpc),
  Ob.g 14 true rfl fun c hpc => r_sub rfl (c.m 17 rfl hpc) rfl (by have hq0 := hpc; (try simp only [Bool.and_eq_true, decide_eq_true_eq] at hq0); omega),
  Ob.g 14 true rfl fun c hpc => r_move rfl (c.p e6),
  Ob.g 14 true rfl fun c hpc => r_sub rfl (c.m 18 rfl hpc) (c.m 19 rfl hpc) (by have hq0 := hpc; (try simp only [Bool.and_eq_true, decide_eq_true_eq] at hq0); omega),
  Ob.g 14 true rfl fun c hpc => r_sindex rfl Tryz.underlying9 (c.m 15 rfl hpc) (c.m 20 rfl hpc) (by have hq0 := hpc; (try simp only [Bool.and_eq_true, decide_eq_true_eq] at hq0); omega) (by have hq0 := hpc; (try simp only [Bool.and_eq_true, decide_eq_true_eq] at hq0); omega),
  Ob.g 14 true rfl fun c hpc => r_move rfl (c.p e1),
  Ob.g 14 true rfl fun c hpc => r_move rfl (c.p e1),
  Ob.g 14 true rfl fun c hpc => r_lenS rfl Tryz.underlying9 (c.m 23 rfl hpc),
  Ob.g 14 true rfl fun c hpc => r_sub rfl (c.m 24 rfl hpc) rfl (by have hq0 := hpc; (try simp only [Bool.and_eq_true, decide_eq_true_eq] at hq0); omega),
  Ob.g 14 true rfl fun c hpc => r_move rfl (c.p e6),
  Ob.g 14 true rfl fun c hpc => r_sub rfl (c.m 25 rfl hpc) (c.m 26 rfl hpc) (by have hq0 := hpc; (try simp only [Bool.and_eq_true, decide_eq_true_eq] at hq0); omega),
  Ob.g 14 true rfl fun c hpc => r_sindex rfl Tryz.underlying9 (c.m 22 rfl hpc) (c.m 27 rfl hpc) (by have hq0 := hpc; (try simp only [Bool.and_eq_true, decide_eq_true_eq] at hq0); omega) (by have hq0 := hpc; (try simp only [Bool.and_eq_true, decide_eq_true_eq] at hq0); omega),
  Ob.g 14 true rfl fun c hpc => r_eql rfl (c.m 21 rfl hpc) (c.m 28 rfl hpc),
  Ob.d fun c => r_and rfl (c.n 14 rfl) (fun h => c.m 29 rfl h), trivial⟩ ?_
 intro a8 w8 τ8 st8 f8
 obtain ⟨e0, e1, e4, e5, e6, -⟩ := f8.ks [(0, _), (1, _), (4, _), (5, _), (6, _)] ⟨e0, e1, e4, e5, e6, trivial⟩
 have e58 : get a8 58 = (.bool (((decide ((j : Int) < (s.size : Int) - (i : Int))) && (decide ((j : Int) < (t.size : Int) - (i : Int)))) && (decide (byteAt s ((s.size : Int) - 1 - (j : Int)) = byteAt t ((t.size : Int) - 1 - (j : Int)))))) := f8.v 30 rfl
 replace r0 := f8.ib 0 rfl
 clear f8
 show Code.wp _ _ _ a8 w8
 refine wp_cond_split (t := ((decide ((j : Int) < (s.size : Int) - (i : Int))) && (decide ((j : Int) < (t.size : Int) - (i : Int)))) && (decide (byteAt s ((s.size : Int) - 1 - (j : Int)) = byteAt t ((t.size : Int) - 1 - (j : Int))))) e58 (fun hc2 => ?_) (fun hc2 => ?_)
 · try simp only [Bool.and_eq_true, decide_eq_true_eq] at hc2
   refine wp_skip ?_
   show Code.wp _ _ _ a8 w8
   refine wp_block ?_
   refine region_St (bf := [0, 1, 3]) (sp := [det _ 59 _, det _ 60 _, det _ 6 _]) [ib r0] mixed st8 (by kernel_rfl) ⟨r0, trivial⟩
    ⟨Ob.d fun c => r_move rfl (c.p e6),
    Ob.d fun c => r_add rfl (c.n 0 rfl) rfl (by omega),
    Ob.d fun c => r_assign rfl (c.n 1 rfl), trivial⟩ ?_
   intro a9 w9 τ9 st9 f9
   obtain ⟨e0, e1, e4, e5, e58, -⟩ := f9.ks [(0, _), (1, _), (4, _), (5, _), (58, _)] ⟨e0, e1, e4, e5, e58, trivial⟩
   have e6 : get a9 6 = (.int .i64 ((j : Int) + 1)) := f9.v 2 rfl
   replace r0 := f9.ib 0 rfl
   clear f9
   show _
   refine ⟨⟨j + 1, τ9, ?_, ?_, ?_, st9, (e6.trans (int_eq (by omega))), e0, e1, e4, e5, r0⟩, ?_⟩
   · omega
   · omega
   · exact turn_n2 q2 (by assumption)
   · simp only [m6, e6, intOf]; omega
 try simp only [Bool.and_eq_false_iff, decide_eq_false_iff_not, Int.not_lt] at hc2
 refine wp_exit ?_
 repeat (with_reducible refine then_exit ?_)
 refine exit_here ?_
 show Code.wp _ _ _ a8 w8
 refine wp_seq ?_
 have hen : j = X.enF s.data.toList t.data.toList := turn_en q2 (by assumption)
 refine region_St (bf := [0, 0, 2, 0, 14, 31, 0, 0, 0, 256, 0, 1792, 4032, 8191, 16383]) (sp := [det _ 61 _, det _ 62 _, det _ 63 _, det _ 64 _, det _ 65 _, det _ 66 _, det _ 67 _, det _ 68 _, det _ 69 _, det _ 70 _, det _ 71 _, det _ 72 _, det _ 73 _, det _ 74 _, box _ _ 0 4 [(.int .i64 ((i : Int))), (.int .i64 ((s.size : Int) - (j : Int))), (.string (t.extract i ((t.size : Int) - (j : Int)).toNat))]]) [ib r0] mixed st8 (by kernel_rfl) ⟨r0, trivial⟩
  ⟨Ob.d fun c => r_move rfl (c.p e5),
  Ob.d fun c => r_move rfl (c.p e0),
  Ob.d fun c => r_lenS rfl Tryz.underlying9 (c.n 1 rfl),
  Ob.d fun c => r_move rfl (c.p e6),
  Ob.d fun c => r_sub rfl (c.n 2 rfl) (c.n 3 rfl) (by omega),
  Ob.d fun c => r_build (cells := #[(.int .i64 ((i : Int))), (.int .i64 ((s.size : Int) - (j : Int)))]) rfl Tryz.underlying95 Tryz.zeroValue95 (pl := #[(0, 1), (1, 1)]) (fun w_ => by simp [Tryz.sizeOf3]) (fill2 (c.n 0 rfl) (c.n 4 rfl) rfl),
  Ob.d fun c => r_move rfl (c.p e1),
  Ob.d fun c => r_move rfl (c.p e5),
  Ob.d fun c => r_move rfl (c.p e1),
  Ob.d fun c => r_lenS rfl Tryz.underlying9 (c.n 8 rfl),
  Ob.d fun c => r_move rfl (c.p e6),
  Ob.d fun c => r_sub rfl (c.n 9 rfl) (c.n 10 rfl) (by omega),
  Ob.d fun c => r_sub2 (s := t) (p := (i : Int)) (q := (t.size : Int) - (j : Int)) rfl Tryz.underlying9 (c.n 6 rfl) (c.n 7 rfl) (c.n 11 rfl) (by omega) (by omega) (by omega),
  Ob.d fun c => r_build (cells := #[(.int .i64 ((i : Int))), (.int .i64 ((s.size : Int) - (j : Int))), (.string (t.extract i ((t.size : Int) - (j : Int)).toNat))]) rfl Tryz.underlying142 Tryz.zeroValue142 (pl := #[(0, 2), (2, 1)]) (fun w_ => by simp [Tryz.sizeOf9, Tryz.sizeOf95]) (fill2 (c.n 5 rfl) (c.n 12 rfl) rfl),
  Ob.storeBox (off := 0) (v := (.agg #[(.int .i64 ((i : Int))), (.int .i64 ((s.size : Int) - (j : Int))), (.string (t.extract i ((t.size : Int) - (j : Int)).toNat))])) rfl rfl rfl rfl Tryz.sizeOf142 (Nat.le_of_ble_eq_true rfl) (by simp [Value.cells, Value.oneCell']) rfl (fun _ _ _ _ c => ⟨c.bp 0 rfl e4, c.ad ((c.p e4).trans r0.ptr) e4 rfl, (c.n 13 rfl)⟩), trivial⟩ ?_
 intro a10 w10 τ10 st10 f10
 obtain ⟨e4, -⟩ := f10.ks [(4, _)] ⟨e4, trivial⟩
 replace r0 : boxR 142 [(.int .i64 ((i : Int))), (.int .i64 ((s.size : Int) - (j : Int))), (.string (t.extract i ((t.size : Int) - (j : Int)).toNat))] (τ10 0) b1x4 w10 := f10.rb 14 e4 rfl
 clear f10
 show Code.wp _ _ _ a10 w10
 refine wp_ret ?_
 repeat (first | with_reducible refine then_ret ?_ | with_reducible refine block_ret ?_)
 refine ret1c (fn := Tryz.f64) rfl st10.defers e4 r0 Tryz.isAgg142 Tryz.sizeOf142 rfl ?_
 have hn_ : ((t.size : Int) - (j : Int)).toNat = t.size - j := by omega
 rw [hn_, ← hfr, ← hen]
 exact ⟨rfl, st10.ext0⟩
end B
end Go.Proofs.YtjmnenjejgahjaaGreatDoor
