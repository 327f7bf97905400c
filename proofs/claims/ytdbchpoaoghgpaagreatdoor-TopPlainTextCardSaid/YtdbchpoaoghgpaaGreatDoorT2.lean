/-
  Walks, printed by a program (gen.py): TurnW.
-/
import Derived.Test.YtdbchpoaoghgpaaGreatDoorChecked
import Derived.Test.YtdbchpoaoghgpaaGreatDoorT1
import Derived.Test.YtdbchpoaoghgpaaGreatDoorP1
set_option linter.unusedSimpArgs false
set_option linter.unusedVariables false
namespace Go.Proofs.YtdbchpoaoghgpaaGreatDoor
namespace B
open Go.RowKit
theorem mixed : Tryz.prog.follows .mixedOrders = true := by kernel_rfl
set_option maxRecDepth 100000 in
theorem turn_c (s t : ByteArray) (w : World) (hs : s.size ≤ 1000000000) (ht : t.size ≤ 1000000000) : Calls Tryz.prog 62 #[(.string (s)), (.string (t))] w (fun e w' => e = .returned (.agg #[.int .i64 ((X.frF s.data.toList t.data.toList : Nat) : Int), .int .i64 ((s.size : Int) - ((X.enF s.data.toList t.data.toList : Nat) : Int)), .string (t.extract (X.frF s.data.toList t.data.toList) (t.size - X.enF s.data.toList t.data.toList))]) ∧ Ext none' w w') := by
 refine enter (n := 75) Tryz.func62 rfl rfl (Nat.le_of_ble_eq_true rfl) ?_
 intro a0 τ0 ha st0
 have e0 : get a0 0 = (.string (s)) := ha 0 _ rfl
 have e1 : get a0 1 = (.string (t)) := ha 1 _ rfl
 clear ha
 refine wp_seq ?_
 refine region_St (bf := [0]) (sp := [box _ _ 0 4 [(.int .i64 (0)), (.int .i64 (0)), (.string ((⟨#[]⟩ : ByteArray)))]]) [] mixed st0 (by kernel_rfl) trivial
  ⟨Ob.alloc rfl rfl rfl rfl Tryz.zeroValue132 rfl, trivial⟩ ?_
 intro a1 w1 τ1 st1 f1
 obtain ⟨b1x4, e4⟩ : ∃ b, get a1 4 = b := ⟨_, rfl⟩
 obtain ⟨e0, e1, -⟩ := f1.ks [(0, _), (1, _)] ⟨e0, e1, trivial⟩
 have r0 : boxR 132 [(.int .i64 (0)), (.int .i64 (0)), (.string ((⟨#[]⟩ : ByteArray)))] (τ1 0) b1x4 w1 := f1.rb 0 e4 rfl
 clear f1
 show Code.wp _ _ _ a1 w1
 refine wp_seq ?_
 refine region_St (bf := [0]) (sp := [det _ 5 _]) [ib r0] mixed st1 (by kernel_rfl) ⟨r0, trivial⟩
  ⟨Ob.d fun c => r_assign rfl rfl, trivial⟩ ?_
 intro a2 w2 τ2 st2 f2
 obtain ⟨e0, e1, e4, -⟩ := f2.ks [(0, _), (1, _), (4, _)] ⟨e0, e1, e4, trivial⟩
 have e5 : get a2 5 = (.int .i64 (0)) := f2.v 0 rfl
 replace r0 := f2.ib 0 rfl
 clear f2
 show Code.wp _ _ _ a2 w2
 refine wp_seq ?_
 refine wp_block ?_
 refine wp_loop (fun a_ w_ => ∃ (i : Nat) (τ : Nat → Foot), (i ≤ s.size) ∧
      (i ≤ t.size) ∧
      (X.frF s.data.toList t.data.toList = i + X.lcpL (s.data.toList.drop i) (t.data.toList.drop i)) ∧
      St (Nw w) w 75 a_ w_ τ ∧
      get a_ 5 = (.int .i64 ((i : Int))) ∧
      get a_ 0 = (.string (s)) ∧
      get a_ 1 = (.string (t)) ∧
      get a_ 4 = b1x4 ∧
      boxR 132 [(.int .i64 (0)), (.int .i64 (0)), (.string ((⟨#[]⟩ : ByteArray)))] (τ 0) b1x4 w_) (fun a_ _ => s.size - (intOf (get a_ 5)).toNat) ?_ ?_
 · refine ⟨0, τ2, ?_, ?_, ?_, st2, (e5.trans (int_eq (by omega))), e0, e1, e4, r0⟩
   · omega
   · omega
   · simp [X.frF]
 intro a3 w3 hI
 obtain ⟨i, τ3, q0, q1, q2, st3, e5, e0, e1, e4, r0⟩ := hI
 have m5 := e5
 refine wp_seq ?_
 refine wp_seq ?_
 refine region_St (bf := [0, 0, 2, 7, 15, 31, 31, 95, 255, 511, 1023, 2047, 2047, 8191, 2047, 2047, 51199, 131071, 262143]) (sp := [det _ 7 _, det _ 8 _, det _ 9 _, det _ 10 _, det _ 11 _, gdet _ 12 _ _, gdet _ 13 _ _, gdet _ 14 _ _, gdet _ 15 _ _, det _ 16 _, det _ 17 _, gdet _ 18 _ _, gdet _ 19 _ _, gdet _ 20 _ _, gdet _ 21 _ _, gdet _ 22 _ _, gdet _ 23 _ _, gdet _ 24 _ _, det _ 25 _]) [ib r0] mixed st3 (by kernel_rfl) ⟨r0, trivial⟩
  ⟨Ob.d fun c => r_move rfl (c.p e5),
  Ob.d fun c => r_move rfl (c.p e0),
  Ob.d fun c => r_lenS rfl Tryz.underlying9 (c.n 1 rfl),
  Ob.d fun c => r_lss rfl (c.n 0 rfl) (c.n 2 rfl),
  Ob.d fun c => r_move rfl (c.n 3 rfl),
  Ob.g 4 true rfl fun c hpc => r_move rfl (c.p e5),
  Ob.g 4 true rfl fun c hpc => r_move rfl (c.p e1),
  Ob.g 4 true rfl fun c hpc => r_lenS rfl Tryz.underlying9 (c.m 6 rfl hpc),
  Ob.g 4 true rfl fun c hpc => r_lss rfl (c.m 5 rfl hpc) (c.m 7 rfl hpc),
  Ob.d fun c => r_and rfl (c.n 4 rfl) (fun h => c.m 8 rfl h),
  Ob.d fun c => r_move rfl (c.n 9 rfl),
  Ob.g 10 true rfl fun c hpc => r_move rfl (c.p e0),
  Ob.g 10 true rfl fun c hpc => r_move rfl (c.p e5),
  Ob.g 10 true rfl fun c hpc => r_sindex rfl Tryz.underlying9 (c.m 11 rfl hpc) (c.m 12 rfl hpc) (by have hq0 := hpc; (try simp only [Bool.and_eq_true, decide_eq_true_eq] at hq0); omega) (by have hq0 := hpc; (try simp only [Bool.and_eq_true, decide_eq_true_eq] at hq0); omega),
  Ob.g 10 true rfl fun c hpc => r_move rfl (c.p e1),
  Ob.g 10 true rfl fun c hpc => r_move rfl (c.p e5),
  Ob.g 10 true rfl fun c hpc => r_sindex rfl Tryz.underlying9 (c.m 14 rfl hpc) (c.m 15 rfl hpc) (by have hq0 := hpc; (try simp only [Bool.and_eq_true, decide_eq_true_eq] at hq0); omega) (by have hq0 := hpc; (try simp only [Bool.and_eq_true, decide_eq_true_eq] at hq0); omega),
  Ob.g 10 true rfl fun c hpc => r_eql rfl (c.m 13 rfl hpc) (c.m 16 rfl hpc),
  Ob.d fun c => r_and rfl (c.n 10 rfl) (fun h => c.m 17 rfl h), trivial⟩ ?_
 intro a4 w4 τ4 st4 f4
 obtain ⟨e0, e1, e4, e5, -⟩ := f4.ks [(0, _), (1, _), (4, _), (5, _)] ⟨e0, e1, e4, e5, trivial⟩
 have e25 : get a4 25 = (.bool (((decide ((i : Int) < (s.size : Int))) && (decide ((i : Int) < (t.size : Int)))) && (decide (byteAt s ((i : Int)) = byteAt t ((i : Int)))))) := f4.v 18 rfl
 replace r0 := f4.ib 0 rfl
 clear f4
 show Code.wp _ _ _ a4 w4
 refine wp_cond_split (t := ((decide ((i : Int) < (s.size : Int))) && (decide ((i : Int) < (t.size : Int)))) && (decide (byteAt s ((i : Int)) = byteAt t ((i : Int))))) e25 (fun hc1 => ?_) (fun hc1 => ?_)
 · try simp only [Bool.and_eq_true, decide_eq_true_eq] at hc1
   refine wp_skip ?_
   show Code.wp _ _ _ a4 w4
   refine wp_block ?_
   refine region_St (bf := [0, 1, 3]) (sp := [det _ 26 _, det _ 27 _, det _ 5 _]) [ib r0] mixed st4 (by kernel_rfl) ⟨r0, trivial⟩
    ⟨Ob.d fun c => r_move rfl (c.p e5),
    Ob.d fun c => r_add rfl (c.n 0 rfl) rfl (by omega),
    Ob.d fun c => r_assign rfl (c.n 1 rfl), trivial⟩ ?_
   intro a5 w5 τ5 st5 f5
   obtain ⟨e0, e1, e4, e25, -⟩ := f5.ks [(0, _), (1, _), (4, _), (25, _)] ⟨e0, e1, e4, e25, trivial⟩
   have e5 : get a5 5 = (.int .i64 ((i : Int) + 1)) := f5.v 2 rfl
   replace r0 := f5.ib 0 rfl
   clear f5
   show _
   refine ⟨⟨i + 1, τ5, ?_, ?_, ?_, st5, (e5.trans (int_eq (by omega))), e0, e1, e4, r0⟩, ?_⟩
   · omega
   · omega
   · exact turn_n1 q2 (by assumption)
   · simp only [m5, e5, intOf]; omega
 try simp only [Bool.and_eq_false_iff, decide_eq_false_iff_not, Int.not_lt] at hc1
 refine wp_exit ?_
 repeat (with_reducible refine then_exit ?_)
 refine exit_here ?_
 show Code.wp _ _ _ a4 w4
 refine wp_seq ?_
 have hfr : i = X.frF s.data.toList t.data.toList := turn_fr q2 (by assumption)
 refine region_St (bf := [0]) (sp := [det _ 6 _]) [ib r0] mixed st4 (by kernel_rfl) ⟨r0, trivial⟩
  ⟨Ob.d fun c => r_assign rfl rfl, trivial⟩ ?_
 intro a6 w6 τ6 st6 f6
 obtain ⟨e0, e1, e4, e5, -⟩ := f6.ks [(0, _), (1, _), (4, _), (5, _)] ⟨e0, e1, e4, e5, trivial⟩
 have e6 : get a6 6 = (.int .i64 (0)) := f6.v 0 rfl
 replace r0 := f6.ib 0 rfl
 clear f6
 show Code.wp _ _ _ a6 w6
 refine wp_seq ?_
 refine wp_block ?_
 refine wp_loop (fun a_ w_ => ∃ (j : Nat) (τ : Nat → Foot), (i + j ≤ s.size) ∧
      (i + j ≤ t.size) ∧
      (X.enF s.data.toList t.data.toList = j + X.lcpL ((s.data.toList.drop i).reverse.drop j) ((t.data.toList.drop i).reverse.drop j)) ∧
      St (Nw w) w 75 a_ w_ τ ∧
      get a_ 6 = (.int .i64 ((j : Int))) ∧
      get a_ 0 = (.string (s)) ∧
      get a_ 1 = (.string (t)) ∧
      get a_ 4 = b1x4 ∧
      get a_ 5 = (.int .i64 ((i : Int))) ∧
      boxR 132 [(.int .i64 (0)), (.int .i64 (0)), (.string ((⟨#[]⟩ : ByteArray)))] (τ 0) b1x4 w_) (fun a_ _ => s.size - (intOf (get a_ 6)).toNat) ?_ ?_
 · refine ⟨0, τ6, ?_, ?_, ?_, st6, (e6.trans (int_eq (by omega))), e0, e1, e4, e5, r0⟩
   · omega
   · omega
   · rw [hfr]; simp [X.enF]
 intro a7 w7 hI
 obtain ⟨j, τ7, q0, q1, q2, st7, e6, e0, e1, e4, e5, r0⟩ := hI
 have m6 := e6
 refine wp_seq ?_
 refine wp_seq ?_
 refine region_St (bf := [0, 0, 2, 0, 14, 31, 63, 127, 127, 383, 127, 1919, 4095, 8191, 16383, 32767, 32767, 98303, 229375, 32767, 1015807, 2097151, 32767, 32767, 8421375, 25198591, 32767, 125861887, 264273919, 536870911, 1073741823]) (sp := [det _ 28 _, det _ 29 _, det _ 30 _, det _ 31 _, det _ 32 _, det _ 33 _, det _ 34 _, gdet _ 35 _ _, gdet _ 36 _ _, gdet _ 37 _ _, gdet _ 38 _ _, gdet _ 39 _ _, gdet _ 40 _ _, det _ 41 _, det _ 42 _, gdet _ 43 _ _, gdet _ 44 _ _, gdet _ 45 _ _, gdet _ 46 _ _, gdet _ 47 _ _, gdet _ 48 _ _, gdet _ 49 _ _, gdet _ 50 _ _, gdet _ 51 _ _, gdet _ 52 _ _, gdet _ 53 _ _, gdet _ 54 _ _, gdet _ 55 _ _, gdet _ 56 _ _, gdet _ 57 _ _, det _ 58 _]) [ib r0] mixed st7 (by kernel_rfl) ⟨r0, trivial⟩
  ⟨Ob.d fun c => r_move rfl (c.p e6),
  Ob.d fun c => r_move rfl (c.p e0),
  Ob.d fun c => r_lenS rfl Tryz.underlying9 (c.n 1 rfl),
  Ob.d fun c => r_move rfl (c.p e5),
  Ob.d fun c => r_sub rfl (c.n 2 rfl) (c.n 3 rfl) (by omega),
  Ob.d fun c => r_lss rfl (c.n 0 rfl) (c.n 4 rfl),
  Ob.d fun c => r_move rfl (c.n 5 rfl),
  Ob.g 6 true rfl fun c hpc => r_move rfl (c.p e6),
  Ob.g 6 true rfl fun c hpc => r_move rfl (c.p e1),
  Ob.g 6 true rfl fun c hpc => r_lenS rfl Tryz.underlying9 (c.m 8 rfl hpc),
  Ob.g 6 true rfl fun c hpc => r_move rfl (c.p e5),
  Ob.g 6 true rfl fun c hpc => r_sub rfl (c.m 9 rfl hpc) (c.m 10 rfl hpc) (by have hq0 := bt hpc; omega),
  Ob.g 6 true rfl fun c hpc => r_lss rfl (c.m 7 rfl hpc) (c.m 11 rfl hpc),
  Ob.d fun c => r_and rfl (c.n 6 rfl) (fun h => c.m 12 rfl h),
  Ob.d fun c => r_move rfl (c.n 13 rfl),
  Ob.g 14 true rfl fun c hpc => r_move rfl (c.p e0),
  Ob.g 14 true rfl fun c hpc => r_move rfl (c.p e0),
  Ob.g 14 true rfl fun c hpc => r_lenS rfl Tryz.underlying9 (c.m 16 rfl hpc),
  Ob.g 14 true rfl fun c hpc => r_sub rfl (c.m 17 rfl hpc) rfl (by have hq0 := hpc; (try simp only [Bool.and_eq_true, decide_eq_true_eq] at hq0); omega),
  Ob.g 14 true rfl fun c hpc => r_move rfl (c.p e6),
  Ob.g 14 true rfl fun c hpc => r_sub rfl (c.m 18 rfl hpc) (c.m 19 rfl hpc) (by have hq0 := hpc; (try simp only [Bool.and_eq_true, decide_eq_true_eq] at hq0); omega),
  Ob.g 14 true rfl fun c hpc => r_sindex rfl Tryz.underlying9 (c.m 15 rfl hpc) (c.m 20 rfl hpc) (by have hq0 := hpc; (try simp only [Bool.and_eq_true, decide_eq_true_eq] at hq0); omega) (by have hq0 := hpc; (try simp only [Bool.and_eq_true, decide_eq_true_eq] at hq0); omega),
  Ob.g 14 true rfl fun c hpc => r_move rfl (c.p e1),
  Ob.g 14 true rfl fun c hpc => r_move rfl (c.p e1),
  Ob.g 14 true rfl fun c hpc => r_lenS rfl Tryz.underlying9 (c.m 23 rfl hpc),
  Ob.g 14 true rfl fun c hpc => r_sub rfl (c.m 24 rfl hpc) rfl (by have hq0 := hpc; (try simp only [Bool.and_eq_true, decide_eq_true_eq] at hq0); omega),
  Ob.g 14 true rfl fun c hpc => r_move rfl (c.p e6),
  Ob.g 14 true rfl fun c hpc => r_sub rfl (c.m 25 rfl hpc) (c.m 26 rfl hpc) (by have hq0 := hpc; (try simp only [Bool.and_eq_true, decide_eq_true_eq] at hq0); omega),
  Ob.g 14 true rfl fun c hpc => r_sindex rfl Tryz.underlying9 (c.m 22 rfl hpc) (c.m 27 rfl hpc) (by have hq0 := hpc; (try simp only [Bool.and_eq_true, decide_eq_true_eq] at hq0); omega) (by have hq0 := hpc; (try simp only [Bool.and_eq_true, decide_eq_true_eq] at hq0); omega),
  Ob.g 14 true rfl fun c hpc => r_eql rfl (c.m 21 rfl hpc) (c.m 28 rfl hpc),
  Ob.d fun c => r_and rfl (c.n 14 rfl) (fun h => c.m 29 rfl h), trivial⟩ ?_
 intro a8 w8 τ8 st8 f8
 obtain ⟨e0, e1, e4, e5, e6, -⟩ := f8.ks [(0, _), (1, _), (4, _), (5, _), (6, _)] ⟨e0, e1, e4, e5, e6, trivial⟩
 have e58 : get a8 58 = (.bool (((decide ((j : Int) < (s.size : Int) - (i : Int))) && (decide ((j : Int) < (t.size : Int) - (i : Int)))) && (decide (byteAt s ((s.size : Int) - 1 - (j : Int)) = byteAt t ((t.size : Int) - 1 - (j : Int)))))) := f8.v 30 rfl
 replace r0 := f8.ib 0 rfl
 clear f8
 show Code.wp _ _ _ a8 w8
 refine wp_cond_split (t := ((decide ((j : Int) < (s.size : Int) - (i : Int))) && (decide ((j : Int) < (t.size : Int) - (i : Int)))) && (decide (byteAt s ((s.size : Int) - 1 - (j : Int)) = byteAt t ((t.size : Int) - 1 - (j : Int))))) e58 (fun hc2 => ?_) (fun hc2 => ?_)
 · try simp only [Bool.and_eq_true, decide_eq_true_eq] at hc2
   refine wp_skip ?_
   show Code.wp _ _ _ a8 w8
   refine wp_block ?_
   refine region_St (bf := [0, 1, 3]) (sp := [det _ 59 _, det _ 60 _, det _ 6 _]) [ib r0] mixed st8 (by kernel_rfl) ⟨r0, trivial⟩
    ⟨Ob.d fun c => r_move rfl (c.p e6),
    Ob.d fun c => r_add rfl (c.n 0 rfl) rfl (by omega),
    Ob.d fun c => r_assign rfl (c.n 1 rfl), trivial⟩ ?_
   intro a9 w9 τ9 st9 f9
   obtain ⟨e0, e1, e4, e5, e58, -⟩ := f9.ks [(0, _), (1, _), (4, _), (5, _), (58, _)] ⟨e0, e1, e4, e5, e58, trivial⟩
   have e6 : get a9 6 = (.int .i64 ((j : Int) + 1)) := f9.v 2 rfl
   replace r0 := f9.ib 0 rfl
   clear f9
   show _
   refine ⟨⟨j + 1, τ9, ?_, ?_, ?_, st9, (e6.trans (int_eq (by omega))), e0, e1, e4, e5, r0⟩, ?_⟩
   · omega
   · omega
   · exact turn_n2 q2 (by assumption)
   · simp only [m6, e6, intOf]; omega
 try simp only [Bool.and_eq_false_iff, decide_eq_false_iff_not, Int.not_lt] at hc2
 refine wp_exit ?_
 repeat (with_reducible refine then_exit ?_)
 refine exit_here ?_
 show Code.wp _ _ _ a8 w8
 refine wp_seq ?_
 have hen : j = X.enF s.data.toList t.data.toList := turn_en q2 (by assumption)
 refine region_St (bf := [0, 0, 2, 0, 14, 31, 0, 0, 0, 256, 0, 1792, 4032, 8191, 16383]) (sp := [det _ 61 _, det _ 62 _, det _ 63 _, det _ 64 _, det _ 65 _, det _ 66 _, det _ 67 _, det _ 68 _, det _ 69 _, det _ 70 _, det _ 71 _, det _ 72 _, det _ 73 _, det _ 74 _, box _ _ 0 4 [(.int .i64 ((i : Int))), (.int .i64 ((s.size : Int) - (j : Int))), (.string (t.extract i ((t.size : Int) - (j : Int)).toNat))]]) [ib r0] mixed st8 (by kernel_rfl) ⟨r0, trivial⟩
  ⟨Ob.d fun c => r_move rfl (c.p e5),
  Ob.d fun c => r_move rfl (c.p e0),
  Ob.d fun c => r_lenS rfl Tryz.underlying9 (c.n 1 rfl),
  Ob.d fun c => r_move rfl (c.p e6),
  Ob.d fun c => r_sub rfl (c.n 2 rfl) (c.n 3 rfl) (by omega),
  Ob.d fun c => r_build (cells := #[(.int .i64 ((i : Int))), (.int .i64 ((s.size : Int) - (j : Int)))]) rfl Tryz.underlying86 Tryz.zeroValue86 (pl := #[(0, 1), (1, 1)]) (fun w_ => by simp [Tryz.sizeOf3]) (fill2 (c.n 0 rfl) (c.n 4 rfl) rfl),
  Ob.d fun c => r_move rfl (c.p e1),
  Ob.d fun c => r_move rfl (c.p e5),
  Ob.d fun c => r_move rfl (c.p e1),
  Ob.d fun c => r_lenS rfl Tryz.underlying9 (c.n 8 rfl),
  Ob.d fun c => r_move rfl (c.p e6),
  Ob.d fun c => r_sub rfl (c.n 9 rfl) (c.n 10 rfl) (by omega),
  Ob.d fun c => r_sub2 (s := t) (p := (i : Int)) (q := (t.size : Int) - (j : Int)) rfl Tryz.underlying9 (c.n 6 rfl) (c.n 7 rfl) (c.n 11 rfl) (by omega) (by omega) (by omega),
  Ob.d fun c => r_build (cells := #[(.int .i64 ((i : Int))), (.int .i64 ((s.size : Int) - (j : Int))), (.string (t.extract i ((t.size : Int) - (j : Int)).toNat))]) rfl Tryz.underlying132 Tryz.zeroValue132 (pl := #[(0, 2), (2, 1)]) (fun w_ => by simp [Tryz.sizeOf86, Tryz.sizeOf9]) (fill2 (c.n 5 rfl) (c.n 12 rfl) rfl),
  Ob.storeBox (off := 0) (v := (.agg #[(.int .i64 ((i : Int))), (.int .i64 ((s.size : Int) - (j : Int))), (.string (t.extract i ((t.size : Int) - (j : Int)).toNat))])) rfl rfl rfl rfl Tryz.sizeOf132 (Nat.le_of_ble_eq_true rfl) (by simp [Value.cells, Value.oneCell']) rfl (fun _ _ _ _ c => ⟨c.bp 0 rfl e4, c.ad ((c.p e4).trans r0.ptr) e4 rfl, (c.n 13 rfl)⟩), trivial⟩ ?_
 intro a10 w10 τ10 st10 f10
 obtain ⟨e4, -⟩ := f10.ks [(4, _)] ⟨e4, trivial⟩
 replace r0 : boxR 132 [(.int .i64 ((i : Int))), (.int .i64 ((s.size : Int) - (j : Int))), (.string (t.extract i ((t.size : Int) - (j : Int)).toNat))] (τ10 0) b1x4 w10 := f10.rb 14 e4 rfl
 clear f10
 show Code.wp _ _ _ a10 w10
 refine wp_ret ?_
 repeat (first | with_reducible refine then_ret ?_ | with_reducible refine block_ret ?_)
 refine ret1c (fn := Tryz.f62) rfl st10.defers e4 r0 Tryz.isAgg132 Tryz.sizeOf132 rfl ?_
 have hn_ : ((t.size : Int) - (j : Int)).toNat = t.size - j := by omega
 rw [hn_, ← hfr, ← hen]
 exact ⟨rfl, st10.ext0⟩
end B
end Go.Proofs.YtdbchpoaoghgpaaGreatDoor

set_option linter.unusedSimpArgs false
set_option linter.unusedVariables false
namespace Go.Proofs.YtdbchpoaoghgpaaGreatDoor
namespace B
open Go.RowKit
def nbB (b : Int) : Bool := (((decide (97 ≤ b) && decide (b ≤ 122)) || (decide (65 ≤ b) && decide (b ≤ 90))) || (decide (48 ≤ b) && decide (b ≤ 57))) || decide (b = 95)
def wbB (b : Int) : Bool := nbB b || decide (128 ≤ b)
set_option maxRecDepth 100000 in
theorem nameByte_c (b : Int) (w : World) : Calls Tryz.prog 79 #[.int .u8 b] w (fun e w' => e = .returned (.bool (nbB b)) ∧ Ext none' w w') := by
 refine enter (n := 29) Tryz.func79 rfl rfl (Nat.le_of_ble_eq_true rfl) ?_
 intro a0 τ0 ha st0
 have e0 : get a0 0 = (.int .u8 (b)) := ha 0 _ rfl
 clear ha
 refine wp_seq ?_
 refine region_St (bf := [0]) (sp := [det _ 2 _]) [] mixed st0 (by kernel_rfl) trivial
  ⟨Ob.d fun c => r_assign rfl rfl, trivial⟩ ?_
 intro a1 w1 τ1 st1 f1
 obtain ⟨e0, -⟩ := f1.ks [(0, _)] ⟨e0, trivial⟩
 have e2 : get a1 2 = (.bool (false)) := f1.v 0 rfl
 clear f1
 show Code.wp _ _ _ a1 w1
 refine wp_seq ?_
 refine region_St (bf := [0, 1, 3, 7, 15, 31, 63, 127, 255, 511, 1023, 2047, 4095, 8191, 16383, 32767, 65535, 131071, 262143, 524287, 1048575, 2097151, 4194303, 8388607, 16777215, 33554431, 67108863]) (sp := [det _ 3 _, det _ 4 _, det _ 5 _, gdet _ 6 _ _, gdet _ 7 _ _, det _ 8 _, det _ 9 _, gdet _ 10 _ _, gdet _ 11 _ _, gdet _ 12 _ _, gdet _ 13 _ _, gdet _ 14 _ _, gdet _ 15 _ _, det _ 16 _, det _ 17 _, gdet _ 18 _ _, gdet _ 19 _ _, gdet _ 20 _ _, gdet _ 21 _ _, gdet _ 22 _ _, gdet _ 23 _ _, det _ 24 _, det _ 25 _, gdet _ 26 _ _, gdet _ 27 _ _, det _ 28 _, det _ 2 _]) [] mixed st1 (by kernel_rfl) trivial
  ⟨Ob.d fun c => r_move rfl (c.p e0),
  Ob.d fun c => r_geq rfl (c.n 0 rfl) rfl,
  Ob.d fun c => r_move rfl (c.n 1 rfl),
  Ob.g 2 true rfl fun c hpc => r_move rfl (c.p e0),
  Ob.g 2 true rfl fun c hpc => r_leq rfl (c.m 3 rfl hpc) rfl,
  Ob.d fun c => r_and rfl (c.n 2 rfl) (fun h => c.m 4 rfl h),
  Ob.d fun c => r_move rfl (c.n 5 rfl),
  Ob.g 6 false rfl fun c hpc => r_move rfl (c.p e0),
  Ob.g 6 false rfl fun c hpc => r_geq rfl (c.m 7 rfl hpc) rfl,
  Ob.g 6 false rfl fun c hpc => r_move rfl (c.m 8 rfl hpc),
  Ob.gg 9 true rfl fun c hpc => r_move rfl (c.p e0),
  Ob.gg 9 true rfl fun c hpc => r_leq rfl (c.m 10 rfl hpc) rfl,
  Ob.g 6 false rfl fun c hpc => r_and rfl (c.m 9 rfl hpc) (fun h => c.m 11 rfl (And.intro hpc h)),
  Ob.d fun c => r_or rfl (c.n 6 rfl) (fun h => c.m 12 rfl h),
  Ob.d fun c => r_move rfl (c.n 13 rfl),
  Ob.g 14 false rfl fun c hpc => r_move rfl (c.p e0),
  Ob.g 14 false rfl fun c hpc => r_geq rfl (c.m 15 rfl hpc) rfl,
  Ob.g 14 false rfl fun c hpc => r_move rfl (c.m 16 rfl hpc),
  Ob.gg 17 true rfl fun c hpc => r_move rfl (c.p e0),
  Ob.gg 17 true rfl fun c hpc => r_leq rfl (c.m 18 rfl hpc) rfl,
  Ob.g 14 false rfl fun c hpc => r_and rfl (c.m 17 rfl hpc) (fun h => c.m 19 rfl (And.intro hpc h)),
  Ob.d fun c => r_or rfl (c.n 14 rfl) (fun h => c.m 20 rfl h),
  Ob.d fun c => r_move rfl (c.n 21 rfl),
  Ob.g 22 false rfl fun c hpc => r_move rfl (c.p e0),
  Ob.g 22 false rfl fun c hpc => r_eql rfl (c.m 23 rfl hpc) rfl,
  Ob.d fun c => r_or rfl (c.n 22 rfl) (fun h => c.m 24 rfl h),
  Ob.d fun c => r_assign rfl (c.n 25 rfl), trivial⟩ ?_
 intro a2 w2 τ2 st2 f2
 have e2 : get a2 2 = (.bool (((((decide (97 ≤ b)) && (decide (b ≤ 122))) || ((decide (65 ≤ b)) && (decide (b ≤ 90)))) || ((decide (48 ≤ b)) && (decide (b ≤ 57)))) || (decide (b = 95)))) := f2.v 26 rfl
 clear f2
 show Code.wp _ _ _ a2 w2
 refine wp_ret ?_
 repeat (first | with_reducible refine then_ret ?_ | with_reducible refine block_ret ?_)
 refine ret1 (fn := Tryz.f79) rfl st2.defers e2 ?_
 exact ⟨rfl, st2.ext0⟩

set_option maxRecDepth 100000 in
theorem wordByte_c (b : Int) (w : World) : Calls Tryz.prog 279 #[.int .u8 b] w (fun e w' => e = .returned (.bool (wbB b)) ∧ Ext none' w w') := by
 refine enter (n := 9) Tryz.func279 rfl rfl (Nat.le_of_ble_eq_true rfl) ?_
 intro a0 τ0 ha st0
 have e0 : get a0 0 = (.int .u8 (b)) := ha 0 _ rfl
 clear ha
 refine wp_seq ?_
 refine region_St (bf := [0]) (sp := [det _ 2 _]) [] mixed st0 (by kernel_rfl) trivial
  ⟨Ob.d fun c => r_assign rfl rfl, trivial⟩ ?_
 intro a1 w1 τ1 st1 f1
 obtain ⟨e0, -⟩ := f1.ks [(0, _)] ⟨e0, trivial⟩
 have e2 : get a1 2 = (.bool (false)) := f1.v 0 rfl
 clear f1
 show Code.wp _ _ _ a1 w1
 refine wp_seq ?_
 refine region_St (bf := [0, 1, 3, 7, 15, 31, 63]) (sp := [det _ 3 _, det _ 4 _, det _ 5 _, gdet _ 6 _ _, gdet _ 7 _ _, det _ 8 _, det _ 2 _]) [] mixed st1 (by kernel_rfl) trivial
  ⟨Ob.d fun c => r_move rfl (c.p e0),
  Ob.c fun c => ⟨_, _, (e_call1 rfl rfl Tryz.call79 (c.n 0 rfl)), nameByte_c b _⟩,
  Ob.d fun c => r_move rfl (c.n 1 rfl),
  Ob.g 2 false rfl fun c hpc => r_move rfl (c.p e0),
  Ob.g 2 false rfl fun c hpc => r_geq rfl (c.m 3 rfl hpc) rfl,
  Ob.d fun c => r_or rfl (c.n 2 rfl) (fun h => c.m 4 rfl h),
  Ob.d fun c => r_assign rfl (c.n 5 rfl), trivial⟩ ?_
 intro a2 w2 τ2 st2 f2
 have e2 : get a2 2 = (.bool ((nbB b) || (decide (128 ≤ b)))) := f2.v 6 rfl
 clear f2
 show Code.wp _ _ _ a2 w2
 refine wp_ret ?_
 repeat (first | with_reducible refine then_ret ?_ | with_reducible refine block_ret ?_)
 refine ret1 (fn := Tryz.f279) rfl st2.defers e2 ?_
 exact ⟨rfl, st2.ext0⟩

theorem word_t1 {s : ByteArray} {j n : Nat} (q : n = j + X.wpre (fun b => wbB b.toNat) (s.data.toList.drop j)) (h : (j : Int) < (s.size : Int) ∧ wbB (byteAt s (j : Int)) = true) : n = j + 1 + X.wpre (fun b => wbB b.toNat) (s.data.toList.drop (j + 1)) := by
  obtain ⟨h1, h2⟩ := h
  have l1 : j < s.data.toList.length := by rw [lsz]; omega
  rw [byteAt_get l1] at h2
  rw [q, X.wpre_step l1 h2]; omega
theorem word_t2 {s : ByteArray} {j n : Nat} (q : n = j + X.wpre (fun b => wbB b.toNat) (s.data.toList.drop j)) (h : (s.size : Int) ≤ (j : Int) ∨ wbB (byteAt s (j : Int)) = false) : j = n := by
  by_cases hs : s.size ≤ j
  · rw [q, X.wpre_end (by rw [lsz]; omega)]; rfl
  · rcases h with h | h
    · omega
    · have l1 : j < s.data.toList.length := by rw [lsz]; omega
      rw [byteAt_get l1] at h
      rw [q, X.wpre_no l1 h]; rfl
theorem word_f1 {s : ByteArray} {i n : Nat} {at_ : Nat} (ha : at_ ≤ s.size) (hi : i ≤ at_) (q : n + X.wpre (fun b => wbB b.toNat) ((s.data.toList.take at_).reverse.drop (at_ - i)) = i) (h : (0 : Int) < (i : Int) ∧ wbB (byteAt s ((i : Int) - 1)) = true) : n + X.wpre (fun b => wbB b.toNat) ((s.data.toList.take at_).reverse.drop (at_ - (i - 1))) = i - 1 := by
  obtain ⟨h1, h2⟩ := h
  have hz := lsz s
  have lt : at_ - i < (s.data.toList.take at_).reverse.length := by rw [List.length_reverse, List.length_take, hz]; omega
  have eg : (s.data.toList.take at_).reverse[at_ - i] = s.data.toList[i - 1]'(by omega) := by
    rw [List.getElem_reverse, List.getElem_take]
    congr 1
    rw [List.length_take, hz]; omega
  have h2' : wbB (((s.data.toList.take at_).reverse[at_ - i]).toNat) = true := by
    rw [eg, ← byteAt_get (by omega)]
    rw [show ((i - 1 : Nat) : Int) = (i : Int) - 1 by omega]; exact h2
  rw [X.wpre_step lt h2'] at q
  rw [show at_ - (i - 1) = at_ - i + 1 by omega]; omega
theorem word_f2 {s : ByteArray} {i n : Nat} {at_ : Nat} (ha : at_ ≤ s.size) (hi : i ≤ at_) (q : n + X.wpre (fun b => wbB b.toNat) ((s.data.toList.take at_).reverse.drop (at_ - i)) = i) (h : (i : Int) ≤ 0 ∨ wbB (byteAt s ((i : Int) - 1)) = false) : i = n := by
  have hz := lsz s
  by_cases h0 : i = 0
  · omega
  · rcases h with h | h
    · omega
    · have lt : at_ - i < (s.data.toList.take at_).reverse.length := by rw [List.length_reverse, List.length_take, hz]; omega
      have eg : (s.data.toList.take at_).reverse[at_ - i] = s.data.toList[i - 1]'(by omega) := by
        rw [List.getElem_reverse, List.getElem_take]
        congr 1
        rw [List.length_take, hz]; omega
      have h2' : wbB (((s.data.toList.take at_).reverse[at_ - i]).toNat) = false := by
        rw [eg, ← byteAt_get (by omega)]
        rw [show ((i - 1 : Nat) : Int) = (i : Int) - 1 by omega]; exact h
      rw [X.wpre_no lt h2'] at q
      omega

set_option maxRecDepth 100000 in
theorem word_c (s : ByteArray) (a : Nat) (w : World) (hs : s.size ≤ 1000000000) (ha : a ≤ s.size) : Calls Tryz.prog 220 #[(.string (s)), (.int .i64 ((a : Int)))] w (fun e w' => e = .returned (.string (s.extract (a - X.wpre (fun b => wbB b.toNat) (s.data.toList.take a).reverse) (a + X.wpre (fun b => wbB b.toNat) (s.data.toList.drop a)))) ∧ Ext none' w w') := by
 refine enter (n := 36) Tryz.func220 rfl rfl (Nat.le_of_ble_eq_true rfl) ?_
 intro a0 τ0 ha st0
 have e0 : get a0 0 = (.string (s)) := ha 0 _ rfl
 have e1 : get a0 1 = (.int .i64 ((a : Int))) := ha 1 _ rfl
 clear ha
 refine wp_seq ?_
 refine region_St (bf := [0]) (sp := [det _ 4 _]) [] mixed st0 (by kernel_rfl) trivial
  ⟨Ob.d fun c => r_assign rfl rfl, trivial⟩ ?_
 intro a1 w1 τ1 st1 f1
 obtain ⟨e0, e1, -⟩ := f1.ks [(0, _), (1, _)] ⟨e0, e1, trivial⟩
 have e4 : get a1 4 = (.string ((⟨#[]⟩ : ByteArray))) := f1.v 0 rfl
 clear f1
 show Code.wp _ _ _ a1 w1
 refine wp_seq ?_
 refine region_St (bf := [0, 0, 1, 7]) (sp := [det _ 7 _, det _ 8 _, det _ 5 _, det _ 6 _]) [] mixed st1 (by kernel_rfl) trivial
  ⟨Ob.d fun c => r_move rfl (c.p e1),
  Ob.d fun c => r_move rfl (c.p e1),
  Ob.d fun c => r_assign rfl (c.n 0 rfl),
  Ob.d fun c => r_assign rfl (c.n 1 rfl), trivial⟩ ?_
 intro a2 w2 τ2 st2 f2
 obtain ⟨e0, e4, -⟩ := f2.ks [(0, _), (4, _)] ⟨e0, e4, trivial⟩
 have e5 : get a2 5 = (.int .i64 ((a : Int))) := f2.v 2 rfl
 have e6 : get a2 6 = (.int .i64 ((a : Int))) := f2.v 3 rfl
 clear f2
 show Code.wp _ _ _ a2 w2
 refine wp_seq ?_
 refine wp_block ?_
 refine wp_loop (fun a_ w_ => ∃ (i : Nat) (τ : Nat → Foot), (i ≤ a) ∧
      (a - X.wpre (fun b => wbB b.toNat) (s.data.toList.take a).reverse) + X.wpre (fun b => wbB b.toNat) ((s.data.toList.take a).reverse.drop (a - i)) = i ∧
      St (Nw w) w 36 a_ w_ τ ∧
      get a_ 5 = (.int .i64 ((i : Int))) ∧
      get a_ 6 = (.int .i64 ((a : Int))) ∧
      get a_ 0 = (.string (s)) ∧
      get a_ 4 = (.string ((⟨#[]⟩ : ByteArray)))) (fun a_ _ => (intOf (get a_ 5)).toNat) ?_ ?_
 · refine ⟨a, τ2, ?_, ?_, st2, (e5.trans (int_eq (by omega))), (e6.trans (int_eq (by omega))), e0, e4⟩
   · omega
   · have := X.wpre_le (p := (fun b => wbB b.toNat)) (l := (s.data.toList.take a).reverse); rw [List.length_reverse, List.length_take] at this; simp only [Nat.sub_self, List.drop_zero]; omega
 intro a3 w3 hI
 obtain ⟨i, τ3, q0, q1, st3, e5, e6, e0, e4⟩ := hI
 have m5 := e5
 refine wp_seq ?_
 refine wp_seq ?_
 refine region_St (bf := [0, 1, 3, 7, 7, 23, 63, 127, 255]) (sp := [det _ 9 _, det _ 10 _, det _ 11 _, gdet _ 12 _ _, gdet _ 13 _ _, gdet _ 14 _ _, gdet _ 15 _ _, gdet _ 16 _ _, det _ 17 _]) [] mixed st3 (by kernel_rfl) trivial
  ⟨Ob.d fun c => r_move rfl (c.p e5),
  Ob.d fun c => r_gtr rfl (c.n 0 rfl) rfl,
  Ob.d fun c => r_move rfl (c.n 1 rfl),
  Ob.g 2 true rfl fun c hpc => r_move rfl (c.p e0),
  Ob.g 2 true rfl fun c hpc => r_move rfl (c.p e5),
  Ob.g 2 true rfl fun c hpc => r_sub rfl (c.m 4 rfl hpc) rfl (by have hq0 := bt hpc; omega),
  Ob.g 2 true rfl fun c hpc => r_sindex rfl Tryz.underlying9 (c.m 3 rfl hpc) (c.m 5 rfl hpc) (by have hq0 := bt hpc; omega) (by have hq0 := bt hpc; omega),
  Ob.gc 2 true rfl fun c hpc => ⟨_, _, (e_call1 rfl rfl Tryz.call279 (c.m 6 rfl hpc)), wordByte_c (byteAt s ((i : Int) - 1)) _⟩,
  Ob.d fun c => r_and rfl (c.n 2 rfl) (fun h => c.m 7 rfl h), trivial⟩ ?_
 intro a4 w4 τ4 st4 f4
 obtain ⟨e0, e4, e5, e6, -⟩ := f4.ks [(0, _), (4, _), (5, _), (6, _)] ⟨e0, e4, e5, e6, trivial⟩
 have e17 : get a4 17 = (.bool ((decide (0 < (i : Int))) && (wbB (byteAt s ((i : Int) - 1))))) := f4.v 8 rfl
 clear f4
 show Code.wp _ _ _ a4 w4
 refine wp_cond_split (t := (decide (0 < (i : Int))) && (wbB (byteAt s ((i : Int) - 1)))) e17 (fun hc1 => ?_) (fun hc1 => ?_)
 · try simp only [Bool.and_eq_true, decide_eq_true_eq] at hc1
   refine wp_skip ?_
   show Code.wp _ _ _ a4 w4
   refine wp_block ?_
   refine region_St (bf := [0, 1, 3]) (sp := [det _ 18 _, det _ 19 _, det _ 5 _]) [] mixed st4 (by kernel_rfl) trivial
    ⟨Ob.d fun c => r_move rfl (c.p e5),
    Ob.d fun c => r_sub rfl (c.n 0 rfl) rfl (by omega),
    Ob.d fun c => r_assign rfl (c.n 1 rfl), trivial⟩ ?_
   intro a5 w5 τ5 st5 f5
   obtain ⟨e0, e4, e6, e17, -⟩ := f5.ks [(0, _), (4, _), (6, _), (17, _)] ⟨e0, e4, e6, e17, trivial⟩
   have e5 : get a5 5 = (.int .i64 ((i : Int) - 1)) := f5.v 2 rfl
   clear f5
   show _
   refine ⟨⟨i - 1, τ5, ?_, ?_, st5, (e5.trans (int_eq (by omega))), (e6.trans (int_eq (by omega))), e0, e4⟩, ?_⟩
   · omega
   · exact word_f1 (by omega) q0 q1 (by assumption)
   · simp only [m5, e5, intOf]; omega
 try simp only [Bool.and_eq_false_iff, decide_eq_false_iff_not, Int.not_lt] at hc1
 refine wp_exit ?_
 repeat (with_reducible refine then_exit ?_)
 refine exit_here ?_
 show Code.wp _ _ _ a4 w4
 refine wp_seq ?_
 refine wp_block ?_
 refine wp_loop (fun a_ w_ => ∃ (j : Nat) (τ : Nat → Foot), (a ≤ j) ∧
      (j ≤ s.size) ∧
      (a + X.wpre (fun b => wbB b.toNat) (s.data.toList.drop a)) = j + X.wpre (fun b => wbB b.toNat) (s.data.toList.drop j) ∧
      (i = (a - X.wpre (fun b => wbB b.toNat) (s.data.toList.take a).reverse)) ∧
      St (Nw w) w 36 a_ w_ τ ∧
      get a_ 6 = (.int .i64 ((j : Int))) ∧
      get a_ 0 = (.string (s)) ∧
      get a_ 4 = (.string ((⟨#[]⟩ : ByteArray))) ∧
      get a_ 5 = (.int .i64 ((i : Int)))) (fun a_ _ => s.size - (intOf (get a_ 6)).toNat) ?_ ?_
 · refine ⟨a, τ4, ?_, ?_, ?_, ?_, st4, (e6.trans (int_eq (by omega))), e0, e4, e5⟩
   · omega
   · omega
   · rfl
   · exact word_f2 (by omega) q0 q1 (by assumption)
 intro a6 w6 hI
 obtain ⟨j, τ6, q0, q1, q2, q3, st6, e6, e0, e4, e5⟩ := hI
 have m6 := e6
 refine wp_seq ?_
 refine wp_seq ?_
 refine region_St (bf := [0, 0, 2, 7, 15, 31, 31, 127, 255, 511]) (sp := [det _ 20 _, det _ 21 _, det _ 22 _, det _ 23 _, det _ 24 _, gdet _ 25 _ _, gdet _ 26 _ _, gdet _ 27 _ _, gdet _ 28 _ _, det _ 29 _]) [] mixed st6 (by kernel_rfl) trivial
  ⟨Ob.d fun c => r_move rfl (c.p e6),
  Ob.d fun c => r_move rfl (c.p e0),
  Ob.d fun c => r_lenS rfl Tryz.underlying9 (c.n 1 rfl),
  Ob.d fun c => r_lss rfl (c.n 0 rfl) (c.n 2 rfl),
  Ob.d fun c => r_move rfl (c.n 3 rfl),
  Ob.g 4 true rfl fun c hpc => r_move rfl (c.p e0),
  Ob.g 4 true rfl fun c hpc => r_move rfl (c.p e6),
  Ob.g 4 true rfl fun c hpc => r_sindex rfl Tryz.underlying9 (c.m 5 rfl hpc) (c.m 6 rfl hpc) (by have hq0 := bt hpc; omega) (by have hq0 := bt hpc; omega),
  Ob.gc 4 true rfl fun c hpc => ⟨_, _, (e_call1 rfl rfl Tryz.call279 (c.m 7 rfl hpc)), wordByte_c (byteAt s ((j : Int))) _⟩,
  Ob.d fun c => r_and rfl (c.n 4 rfl) (fun h => c.m 8 rfl h), trivial⟩ ?_
 intro a7 w7 τ7 st7 f7
 obtain ⟨e0, e4, e5, e6, -⟩ := f7.ks [(0, _), (4, _), (5, _), (6, _)] ⟨e0, e4, e5, e6, trivial⟩
 have e29 : get a7 29 = (.bool ((decide ((j : Int) < (s.size : Int))) && (wbB (byteAt s ((j : Int)))))) := f7.v 9 rfl
 clear f7
 show Code.wp _ _ _ a7 w7
 refine wp_cond_split (t := (decide ((j : Int) < (s.size : Int))) && (wbB (byteAt s ((j : Int))))) e29 (fun hc2 => ?_) (fun hc2 => ?_)
 · try simp only [Bool.and_eq_true, decide_eq_true_eq] at hc2
   refine wp_skip ?_
   show Code.wp _ _ _ a7 w7
   refine wp_block ?_
   refine region_St (bf := [0, 1, 3]) (sp := [det _ 30 _, det _ 31 _, det _ 6 _]) [] mixed st7 (by kernel_rfl) trivial
    ⟨Ob.d fun c => r_move rfl (c.p e6),
    Ob.d fun c => r_add rfl (c.n 0 rfl) rfl (by omega),
    Ob.d fun c => r_assign rfl (c.n 1 rfl), trivial⟩ ?_
   intro a8 w8 τ8 st8 f8
   obtain ⟨e0, e4, e5, e29, -⟩ := f8.ks [(0, _), (4, _), (5, _), (29, _)] ⟨e0, e4, e5, e29, trivial⟩
   have e6 : get a8 6 = (.int .i64 ((j : Int) + 1)) := f8.v 2 rfl
   clear f8
   show _
   refine ⟨⟨j + 1, τ8, ?_, ?_, ?_, ?_, st8, (e6.trans (int_eq (by omega))), e0, e4, e5⟩, ?_⟩
   · omega
   · omega
   · exact word_t1 q2 (by assumption)
   · exact q3
   · simp only [m6, e6, intOf]; omega
 try simp only [Bool.and_eq_false_iff, decide_eq_false_iff_not, Int.not_lt] at hc2
 refine wp_exit ?_
 repeat (with_reducible refine then_exit ?_)
 refine exit_here ?_
 show Code.wp _ _ _ a7 w7
 refine wp_seq ?_
 refine region_St (bf := [0, 0, 0, 7, 15]) (sp := [det _ 32 _, det _ 33 _, det _ 34 _, det _ 35 _, det _ 4 _]) [] mixed st7 (by kernel_rfl) trivial
  ⟨Ob.d fun c => r_move rfl (c.p e0),
  Ob.d fun c => r_move rfl (c.p e5),
  Ob.d fun c => r_move rfl (c.p e6),
  Ob.d fun c => r_sub2 (s := s) (p := (i : Int)) (q := (j : Int)) rfl Tryz.underlying9 (c.n 0 rfl) (c.n 1 rfl) (c.n 2 rfl) (by omega) (by omega) (by omega),
  Ob.d fun c => r_assign rfl (c.n 3 rfl), trivial⟩ ?_
 intro a9 w9 τ9 st9 f9
 have e4 : get a9 4 = (.string (s.extract i j)) := f9.v 4 rfl
 clear f9
 show Code.wp _ _ _ a9 w9
 refine wp_ret ?_
 repeat (first | with_reducible refine then_ret ?_ | with_reducible refine block_ret ?_)
 refine ret1 (fn := Tryz.f220) rfl st9.defers e4 ?_
 have hto : j = (a + X.wpre (fun b => wbB b.toNat) (s.data.toList.drop a)) := word_t2 q2 (by assumption)
 rw [← hto, ← q3]
 exact ⟨rfl, st9.ext0⟩
end B
end Go.Proofs.YtdbchpoaoghgpaaGreatDoor
