/-
  The walks over package span and its reference, function by function: what each call hands back. Printed by a program (gen.py).
-/
import Derived.Test.YtfkjmkngiiokmaaBaseS
import Derived.Test.YtfkjmkngiiokmaaChecked
set_option linter.unusedSimpArgs false
set_option linter.unusedVariables false
namespace Go.Proofs.Ytfkjmkngiiokmaa
namespace B
open Go.RowKit
theorem mixed : Try.prog.follows .mixedOrders = true := by kernel_rfl
def lessB (p q : Int × Int) : Bool := decide (p.1 < q.1) || (decide (p.1 = q.1) && decide (p.2 < q.2))
def touchB (p q : Int × Int) : Bool := decide (max p.1 q.1 ≤ min p.2 q.2)
def overlapB (p q : Int × Int) : Bool := decide (max p.1 q.1 < min p.2 q.2)
def withinB (p q : Int × Int) : Bool := decide (q.1 ≤ p.1) && decide (p.2 ≤ q.2)
def hasB (p : Int × Int) (n : Int) : Bool := decide (p.1 ≤ n) && decide (n ≤ p.2)
def mayB (p : Int × Int) (n : Int) : Bool := decide (0 ≤ p.1) && decide (p.1 ≤ p.2) && decide (p.2 ≤ n)
def cmpI (x y : Int) : Int := if x < y then -1 else if y < x then 1 else 0
def orF (xs : List Int) : Int := (xs.find? (fun x => x != 0)).getD 0
def cmpS (p q : Int × Int) : Int := orF [cmpI p.1 q.1, cmpI p.2 q.2]
def lowF (x n : Int) : Int := IntKind.i64.wrap ((IntKind.u64.wrap x).tmod (IntKind.u64.wrap n))
theorem u64_pos {n : Int} (h : 0 < n) (h2 : n ≤ 9223372036854775807) : IntKind.u64.wrap n ≠ 0 := by
  have : IntKind.u64.wrap n = n := by simp [IntKind.wrap, IntKind.signed, IntKind.bits]; omega
  omega
theorem take_snoc {α : Type} [Inhabited α] {xs : List α} {k : Nat} (h : k < xs.length) : xs.take (k + 1) = xs.take k ++ [nth xs k] := by
  rw [List.take_succ_eq_append_getElem h]
  simp [nth, List.getD, List.getElem?_eq_getElem h]
theorem take_zero {xs : List Int} {k : Nat} (h : k < xs.length) (hq : ∀ x ∈ xs.take k, x = 0) (h0 : nth xs (k : Int) = 0) : ∀ x ∈ xs.take (k + 1), x = 0 := by
  rw [take_snoc h]
  intro x hx
  rcases List.mem_append.1 hx with hx | hx
  · exact hq x hx
  · simp at hx; rw [hx]; exact h0
theorem orF_hit {xs : List Int} {k : Nat} (hq : ∀ x ∈ xs.take k, x = 0) (h : k < xs.length) (h0 : ¬ nth xs (k : Int) = 0) : orF xs = nth xs (k : Int) := by
  have e : xs = xs.take k ++ nth xs (k : Int) :: xs.drop (k + 1) := by
    conv => lhs; rw [← List.take_append_drop (k + 1) xs, take_snoc h]
    simp
  have hn : (xs.take k).find? (fun x => x != 0) = none := List.find?_eq_none.2 fun x hx => by simp [hq x hx]
  unfold orF
  rw [e, List.find?_append, hn]
  rw [← e]
  simp [List.find?_cons, h0]
theorem orF_miss {xs : List Int} {k : Nat} (hk : k ≤ xs.length) (hq : ∀ x ∈ xs.take k, x = 0) (h : (xs.length : Int) ≤ k) : orF xs = 0 := by
  rw [List.take_of_length_le (by omega)] at hq
  have hn : xs.find? (fun x => x != 0) = none := List.find?_eq_none.2 fun x hx => by simp [hq x hx]
  simp [orF, hn]
theorem take_same {α : Type} [Inhabited α] {xs ys : List α} {k : Nat} (h : k < xs.length) (h' : k < ys.length) (hq : xs.take k = ys.take k) (h0 : nth xs (k : Int) = nth ys (k : Int)) : xs.take (k + 1) = ys.take (k + 1) := by
  rw [take_snoc h, take_snoc h', hq, h0]
theorem differ {α : Type} [Inhabited α] {xs ys : List α} {i : Int} (h : ¬ nth xs i = nth ys i) : ¬ xs = ys := fun e => h (by rw [e])
theorem all_same {α : Type} {xs ys : List α} {k : Nat} (hl : xs.length = ys.length) (hk : k ≤ xs.length) (hq : xs.take k = ys.take k) (h : (xs.length : Int) ≤ k) : xs = ys := by
  rwa [List.take_of_length_le (by omega), List.take_of_length_le (by omega)] at hq
def spanB (p q : Int × Int) : Bool := decide (p = q)
theorem spanB_eq (p q : Int × Int) : spanB p q = (decide (p.1 = q.1) && decide (p.2 = q.2)) := by
  rw [Bool.eq_iff_iff]; simp [spanB, Prod.ext_iff]
theorem span_run (p q : Int × Int) (w : World) : (Op.equal 43 (spanV p) (spanV q)).run Try.prog w = .ok (spanB p q) w := by
  rw [spanB_eq]
  have h := run_equalIn_struct (P := Try.prog) w 9999 43 #[.int .i64 p.1, .int .i64 p.2] #[.int .i64 q.1, .int .i64 q.2] rfl Try.stoodInHeld43
  simp only [Op.equal, Op.maxDepth, spanV, h]
  simp [Program.fieldsOf, Op.eqFields, part, go_sem]
  by_cases h1 : p.1 = q.1 <;> by_cases h2 : p.2 = q.2 <;> simp [h1, h2]
theorem span_eq {a : Act} {o : Oper} {w : World} {x y : Operand} {t' : TypeId} {p q : Int × Int} (ho : o.op = .binOp .eql 43 x y t') (hx : a.eval x = spanV p) (hy : a.eval y = spanV q) : Runs Try.prog a o w (.bool (spanB p q)) := by
  have h := span_run p q w
  simp only [spanV] at h hx hy
  simp [Runs, execOp, ho, hx, hy, eqGuard, binOp, h]
theorem span_ne {a : Act} {o : Oper} {w : World} {x y : Operand} {t' : TypeId} {p q : Int × Int} (ho : o.op = .binOp .neq 43 x y t') (hx : a.eval x = spanV p) (hy : a.eval y = spanV q) : Runs Try.prog a o w (.bool (!spanB p q)) := by
  have h := span_run p q w
  simp only [spanV] at h hx hy
  simp [Runs, execOp, ho, hx, hy, eqGuard, binOp, h]
def cmpE (a b : Int × Int × ByteArray) : Int := orF [cmpI a.1 b.1, cmpI a.2.1 b.2.1]
def lenW (p : Int × Int) : Int := IntKind.i64.wrap (p.2 - p.1)
theorem tn (m i : Nat) : ((m : Int) - (i : Int)).toNat = m - i := by omega
theorem tn2 (m j i : Nat) : ((m : Int) + (j : Int) - (i : Int)).toNat = m + j - i := by omega
set_option maxRecDepth 100000 in
theorem refLess_c (p q : Int × Int) (w : World) : Calls Try.prog 42 #[spanV p, spanV q] w (fun e w' => e = .returned (.bool (lessB p q)) ∧ Ext none' w w') := by
 refine enter (n := 24) Try.func42 rfl rfl (Nat.le_of_ble_eq_true rfl) ?_
 intro a0 τ0 ha st0
 have e0 : get a0 0 = (.agg #[(.int .i64 (p.1)), (.int .i64 (p.2))]) := ha 0 _ rfl
 have e1 : get a0 1 = (.agg #[(.int .i64 (q.1)), (.int .i64 (q.2))]) := ha 1 _ rfl
 clear ha
 refine wp_seq ?_
 refine region_St (bf := [0, 0, 0]) (sp := [box _ _ 0 2 [(.int .i64 (p.1)), (.int .i64 (p.2))], box _ _ 1 3 [(.int .i64 (q.1)), (.int .i64 (q.2))], det _ 4 _]) [] mixed st0 (by kernel_rfl) trivial
  ⟨Ob.box (v := (.agg #[(.int .i64 (p.1)), (.int .i64 (p.2))])) rfl rfl rfl rfl rfl (fun _ _ _ _ c => (c.p e0)),
  Ob.box (v := (.agg #[(.int .i64 (q.1)), (.int .i64 (q.2))])) rfl rfl rfl rfl rfl (fun _ _ _ _ c => (c.p e1)),
  Ob.d fun c => r_assign rfl rfl, trivial⟩ ?_
 intro a1 w1 τ1 st1 f1
 obtain ⟨b1x2, e2⟩ : ∃ b, get a1 2 = b := ⟨_, rfl⟩
 obtain ⟨b1x3, e3⟩ : ∃ b, get a1 3 = b := ⟨_, rfl⟩
 have e4 : get a1 4 = (.bool (false)) := f1.v 2 rfl
 have r0 : boxR 43 [(.int .i64 (p.1)), (.int .i64 (p.2))] (τ1 0) b1x2 w1 := f1.rb 0 e2 rfl
 have r1 : boxR 43 [(.int .i64 (q.1)), (.int .i64 (q.2))] (τ1 1) b1x3 w1 := f1.rb 1 e3 rfl
 clear f1
 show Code.wp _ _ _ a1 w1
 refine wp_seq ?_
 refine region_St (bf := [0, 1, 0, 4, 15, 31, 63, 127, 63, 319, 1023, 2047, 4095, 8191, 4095, 20479, 65535, 131071, 262143, 524287]) (sp := [det _ 5 _, det _ 6 _, det _ 7 _, det _ 8 _, det _ 9 _, det _ 10 _, gdet _ 11 _ _, gdet _ 12 _ _, gdet _ 13 _ _, gdet _ 14 _ _, gdet _ 15 _ _, gdet _ 16 _ _, gdet _ 17 _ _, gdet _ 18 _ _, gdet _ 19 _ _, gdet _ 20 _ _, gdet _ 21 _ _, gdet _ 22 _ _, det _ 23 _, det _ 4 _]) [ib r0, ib r1] mixed st1 (by kernel_rfl) ⟨r0, r1, trivial⟩
  ⟨Ob.d fun c => r_fieldAddr rfl Try.underlying43 rfl rfl Try.sizeOf3 ((c.p e2).trans r0.ptr),
  Ob.d fun c => r_load1 rfl Try.isAgg3 (c.n 0 rfl) ((c.ib 0 rfl).cell (j := 0) rfl),
  Ob.d fun c => r_fieldAddr rfl Try.underlying43 rfl rfl Try.sizeOf3 ((c.p e3).trans r1.ptr),
  Ob.d fun c => r_load1 rfl Try.isAgg3 (c.n 2 rfl) ((c.ib 1 rfl).cell (j := 0) rfl),
  Ob.d fun c => r_lss rfl (c.n 1 rfl) (c.n 3 rfl),
  Ob.d fun c => r_move rfl (c.n 4 rfl),
  Ob.g 5 false rfl fun c hpc => r_fieldAddr rfl Try.underlying43 rfl rfl Try.sizeOf3 ((c.p e2).trans r0.ptr),
  Ob.g 5 false rfl fun c hpc => r_load1 rfl Try.isAgg3 (c.m 6 rfl hpc) ((c.ib 0 rfl).cell (j := 0) rfl),
  Ob.g 5 false rfl fun c hpc => r_fieldAddr rfl Try.underlying43 rfl rfl Try.sizeOf3 ((c.p e3).trans r1.ptr),
  Ob.g 5 false rfl fun c hpc => r_load1 rfl Try.isAgg3 (c.m 8 rfl hpc) ((c.ib 1 rfl).cell (j := 0) rfl),
  Ob.g 5 false rfl fun c hpc => r_eql rfl (c.m 7 rfl hpc) (c.m 9 rfl hpc),
  Ob.g 5 false rfl fun c hpc => r_move rfl (c.m 10 rfl hpc),
  Ob.gg 11 true rfl fun c hpc => r_fieldAddr rfl Try.underlying43 rfl rfl Try.sizeOf3 ((c.p e2).trans r0.ptr),
  Ob.gg 11 true rfl fun c hpc => r_load1 rfl Try.isAgg3 (c.m 12 rfl hpc) ((c.ib 0 rfl).cell (j := 1) rfl),
  Ob.gg 11 true rfl fun c hpc => r_fieldAddr rfl Try.underlying43 rfl rfl Try.sizeOf3 ((c.p e3).trans r1.ptr),
  Ob.gg 11 true rfl fun c hpc => r_load1 rfl Try.isAgg3 (c.m 14 rfl hpc) ((c.ib 1 rfl).cell (j := 1) rfl),
  Ob.gg 11 true rfl fun c hpc => r_lss rfl (c.m 13 rfl hpc) (c.m 15 rfl hpc),
  Ob.g 5 false rfl fun c hpc => r_and rfl (c.m 11 rfl hpc) (fun h => c.m 16 rfl (And.intro hpc h)),
  Ob.d fun c => r_or rfl (c.n 5 rfl) (fun h => c.m 17 rfl h),
  Ob.d fun c => r_assign rfl (c.n 18 rfl), trivial⟩ ?_
 intro a2 w2 τ2 st2 f2
 have e4 : get a2 4 = (.bool ((decide (p.1 < q.1)) || ((decide (p.1 = q.1)) && (decide (p.2 < q.2))))) := f2.v 19 rfl
 clear f2
 show Code.wp _ _ _ a2 w2
 refine wp_ret ?_
 repeat (first | with_reducible refine then_ret ?_ | with_reducible refine block_ret ?_)
 refine ret1 (fn := Try.f42) rfl st2.defers e4 ?_
 exact ⟨rfl, st2.ext0⟩

set_option maxRecDepth 100000 in
theorem may_c (p : Int × Int) (n : Int) (w : World) : Calls Try.prog 32 #[spanV p, .int .i64 n] w (fun e w' => e = .returned (.bool (mayB p n)) ∧ Ext none' w w') := by
 refine enter (n := 21) Try.func32 rfl rfl (Nat.le_of_ble_eq_true rfl) ?_
 intro a0 τ0 ha st0
 have e0 : get a0 0 = (.agg #[(.int .i64 (p.1)), (.int .i64 (p.2))]) := ha 0 _ rfl
 have e1 : get a0 1 = (.int .i64 (n)) := ha 1 _ rfl
 clear ha
 refine wp_seq ?_
 refine region_St (bf := [0, 0]) (sp := [box _ _ 0 2 [(.int .i64 (p.1)), (.int .i64 (p.2))], det _ 4 _]) [] mixed st0 (by kernel_rfl) trivial
  ⟨Ob.box (v := (.agg #[(.int .i64 (p.1)), (.int .i64 (p.2))])) rfl rfl rfl rfl rfl (fun _ _ _ _ c => (c.p e0)),
  Ob.d fun c => r_assign rfl rfl, trivial⟩ ?_
 intro a1 w1 τ1 st1 f1
 obtain ⟨b1x2, e2⟩ : ∃ b, get a1 2 = b := ⟨_, rfl⟩
 obtain ⟨e1, -⟩ := f1.ks [(1, _)] ⟨e1, trivial⟩
 have e4 : get a1 4 = (.bool (false)) := f1.v 1 rfl
 have r0 : boxR 43 [(.int .i64 (p.1)), (.int .i64 (p.2))] (τ1 0) b1x2 w1 := f1.rb 0 e2 rfl
 clear f1
 show Code.wp _ _ _ a1 w1
 refine wp_seq ?_
 refine region_St (bf := [0, 1, 3, 7, 15, 31, 15, 79, 255, 511, 1023, 2047, 4095, 2047, 16383, 32767, 65535]) (sp := [det _ 5 _, det _ 6 _, det _ 7 _, det _ 8 _, gdet _ 9 _ _, gdet _ 10 _ _, gdet _ 11 _ _, gdet _ 12 _ _, gdet _ 13 _ _, det _ 14 _, det _ 15 _, gdet _ 16 _ _, gdet _ 17 _ _, gdet _ 18 _ _, gdet _ 19 _ _, det _ 20 _, det _ 4 _]) [ib r0] mixed st1 (by kernel_rfl) ⟨r0, trivial⟩
  ⟨Ob.d fun c => r_fieldAddr rfl Try.underlying43 rfl rfl Try.sizeOf3 ((c.p e2).trans r0.ptr),
  Ob.d fun c => r_load1 rfl Try.isAgg3 (c.n 0 rfl) ((c.ib 0 rfl).cell (j := 0) rfl),
  Ob.d fun c => r_geq rfl (c.n 1 rfl) rfl,
  Ob.d fun c => r_move rfl (c.n 2 rfl),
  Ob.g 3 true rfl fun c hpc => r_fieldAddr rfl Try.underlying43 rfl rfl Try.sizeOf3 ((c.p e2).trans r0.ptr),
  Ob.g 3 true rfl fun c hpc => r_load1 rfl Try.isAgg3 (c.m 4 rfl hpc) ((c.ib 0 rfl).cell (j := 0) rfl),
  Ob.g 3 true rfl fun c hpc => r_fieldAddr rfl Try.underlying43 rfl rfl Try.sizeOf3 ((c.p e2).trans r0.ptr),
  Ob.g 3 true rfl fun c hpc => r_load1 rfl Try.isAgg3 (c.m 6 rfl hpc) ((c.ib 0 rfl).cell (j := 1) rfl),
  Ob.g 3 true rfl fun c hpc => r_leq rfl (c.m 5 rfl hpc) (c.m 7 rfl hpc),
  Ob.d fun c => r_and rfl (c.n 3 rfl) (fun h => c.m 8 rfl h),
  Ob.d fun c => r_move rfl (c.n 9 rfl),
  Ob.g 10 true rfl fun c hpc => r_fieldAddr rfl Try.underlying43 rfl rfl Try.sizeOf3 ((c.p e2).trans r0.ptr),
  Ob.g 10 true rfl fun c hpc => r_load1 rfl Try.isAgg3 (c.m 11 rfl hpc) ((c.ib 0 rfl).cell (j := 1) rfl),
  Ob.g 10 true rfl fun c hpc => r_move rfl (c.p e1),
  Ob.g 10 true rfl fun c hpc => r_leq rfl (c.m 12 rfl hpc) (c.m 13 rfl hpc),
  Ob.d fun c => r_and rfl (c.n 10 rfl) (fun h => c.m 14 rfl h),
  Ob.d fun c => r_assign rfl (c.n 15 rfl), trivial⟩ ?_
 intro a2 w2 τ2 st2 f2
 have e4 : get a2 4 = (.bool (((decide (0 ≤ p.1)) && (decide (p.1 ≤ p.2))) && (decide (p.2 ≤ n)))) := f2.v 16 rfl
 clear f2
 show Code.wp _ _ _ a2 w2
 refine wp_ret ?_
 repeat (first | with_reducible refine then_ret ?_ | with_reducible refine block_ret ?_)
 refine ret1 (fn := Try.f32) rfl st2.defers e4 ?_
 exact ⟨rfl, st2.ext0⟩

set_option maxRecDepth 100000 in
theorem refMay_c (p : Int × Int) (n : Int) (w : World) : Calls Try.prog 48 #[spanV p, .int .i64 n] w (fun e w' => e = .returned (.bool (mayB p n)) ∧ Ext none' w w') := by
 refine enter (n := 21) Try.func48 rfl rfl (Nat.le_of_ble_eq_true rfl) ?_
 intro a0 τ0 ha st0
 have e0 : get a0 0 = (.agg #[(.int .i64 (p.1)), (.int .i64 (p.2))]) := ha 0 _ rfl
 have e1 : get a0 1 = (.int .i64 (n)) := ha 1 _ rfl
 clear ha
 refine wp_seq ?_
 refine region_St (bf := [0, 0]) (sp := [box _ _ 0 2 [(.int .i64 (p.1)), (.int .i64 (p.2))], det _ 4 _]) [] mixed st0 (by kernel_rfl) trivial
  ⟨Ob.box (v := (.agg #[(.int .i64 (p.1)), (.int .i64 (p.2))])) rfl rfl rfl rfl rfl (fun _ _ _ _ c => (c.p e0)),
  Ob.d fun c => r_assign rfl rfl, trivial⟩ ?_
 intro a1 w1 τ1 st1 f1
 obtain ⟨b1x2, e2⟩ : ∃ b, get a1 2 = b := ⟨_, rfl⟩
 obtain ⟨e1, -⟩ := f1.ks [(1, _)] ⟨e1, trivial⟩
 have e4 : get a1 4 = (.bool (false)) := f1.v 1 rfl
 have r0 : boxR 43 [(.int .i64 (p.1)), (.int .i64 (p.2))] (τ1 0) b1x2 w1 := f1.rb 0 e2 rfl
 clear f1
 show Code.wp _ _ _ a1 w1
 refine wp_seq ?_
 refine region_St (bf := [0, 1, 3, 7, 15, 31, 15, 79, 255, 511, 1023, 2047, 4095, 2047, 16383, 32767, 65535]) (sp := [det _ 5 _, det _ 6 _, det _ 7 _, det _ 8 _, gdet _ 9 _ _, gdet _ 10 _ _, gdet _ 11 _ _, gdet _ 12 _ _, gdet _ 13 _ _, det _ 14 _, det _ 15 _, gdet _ 16 _ _, gdet _ 17 _ _, gdet _ 18 _ _, gdet _ 19 _ _, det _ 20 _, det _ 4 _]) [ib r0] mixed st1 (by kernel_rfl) ⟨r0, trivial⟩
  ⟨Ob.d fun c => r_fieldAddr rfl Try.underlying43 rfl rfl Try.sizeOf3 ((c.p e2).trans r0.ptr),
  Ob.d fun c => r_load1 rfl Try.isAgg3 (c.n 0 rfl) ((c.ib 0 rfl).cell (j := 0) rfl),
  Ob.d fun c => r_geq rfl (c.n 1 rfl) rfl,
  Ob.d fun c => r_move rfl (c.n 2 rfl),
  Ob.g 3 true rfl fun c hpc => r_fieldAddr rfl Try.underlying43 rfl rfl Try.sizeOf3 ((c.p e2).trans r0.ptr),
  Ob.g 3 true rfl fun c hpc => r_load1 rfl Try.isAgg3 (c.m 4 rfl hpc) ((c.ib 0 rfl).cell (j := 0) rfl),
  Ob.g 3 true rfl fun c hpc => r_fieldAddr rfl Try.underlying43 rfl rfl Try.sizeOf3 ((c.p e2).trans r0.ptr),
  Ob.g 3 true rfl fun c hpc => r_load1 rfl Try.isAgg3 (c.m 6 rfl hpc) ((c.ib 0 rfl).cell (j := 1) rfl),
  Ob.g 3 true rfl fun c hpc => r_leq rfl (c.m 5 rfl hpc) (c.m 7 rfl hpc),
  Ob.d fun c => r_and rfl (c.n 3 rfl) (fun h => c.m 8 rfl h),
  Ob.d fun c => r_move rfl (c.n 9 rfl),
  Ob.g 10 true rfl fun c hpc => r_fieldAddr rfl Try.underlying43 rfl rfl Try.sizeOf3 ((c.p e2).trans r0.ptr),
  Ob.g 10 true rfl fun c hpc => r_load1 rfl Try.isAgg3 (c.m 11 rfl hpc) ((c.ib 0 rfl).cell (j := 1) rfl),
  Ob.g 10 true rfl fun c hpc => r_move rfl (c.p e1),
  Ob.g 10 true rfl fun c hpc => r_leq rfl (c.m 12 rfl hpc) (c.m 13 rfl hpc),
  Ob.d fun c => r_and rfl (c.n 10 rfl) (fun h => c.m 14 rfl h),
  Ob.d fun c => r_assign rfl (c.n 15 rfl), trivial⟩ ?_
 intro a2 w2 τ2 st2 f2
 have e4 : get a2 4 = (.bool (((decide (0 ≤ p.1)) && (decide (p.1 ≤ p.2))) && (decide (p.2 ≤ n)))) := f2.v 16 rfl
 clear f2
 show Code.wp _ _ _ a2 w2
 refine wp_ret ?_
 repeat (first | with_reducible refine then_ret ?_ | with_reducible refine block_ret ?_)
 refine ret1 (fn := Try.f48) rfl st2.defers e4 ?_
 exact ⟨rfl, st2.ext0⟩

set_option maxRecDepth 100000 in
theorem isNaN_c (x : Int) (w : World) : Calls Try.prog 51 #[.int .i64 x] w (fun e w' => e = .returned (.bool (false)) ∧ Ext none' w w') := by
 refine enter (n := 6) Try.func51 rfl rfl (Nat.le_of_ble_eq_true rfl) ?_
 intro a0 τ0 ha st0
 have e0 : get a0 0 = (.int .i64 (x)) := ha 0 _ rfl
 clear ha
 refine wp_seq ?_
 refine region_St (bf := [0]) (sp := [det _ 2 _]) [] mixed st0 (by kernel_rfl) trivial
  ⟨Ob.d fun c => r_assign rfl rfl, trivial⟩ ?_
 intro a1 w1 τ1 st1 f1
 obtain ⟨e0, -⟩ := f1.ks [(0, _)] ⟨e0, trivial⟩
 have e2 : get a1 2 = (.bool (false)) := f1.v 0 rfl
 clear f1
 show Code.wp _ _ _ a1 w1
 refine wp_seq ?_
 refine region_St (bf := [0, 0, 3, 7]) (sp := [det _ 3 _, det _ 4 _, det _ 5 _, det _ 2 _]) [] mixed st1 (by kernel_rfl) trivial
  ⟨Ob.d fun c => r_move rfl (c.p e0),
  Ob.d fun c => r_move rfl (c.p e0),
  Ob.d fun c => r_neq rfl (c.n 0 rfl) (c.n 1 rfl),
  Ob.d fun c => r_assign rfl (c.n 2 rfl), trivial⟩ ?_
 intro a2 w2 τ2 st2 f2
 have e2 : get a2 2 = (.bool (!decide (x = x))) := f2.v 3 rfl
 clear f2
 show Code.wp _ _ _ a2 w2
 refine wp_ret ?_
 repeat (first | with_reducible refine then_ret ?_ | with_reducible refine block_ret ?_)
 refine ret1 (fn := Try.f51) rfl st2.defers e2 ?_
 exact ⟨by simp, st2.ext0⟩

set_option maxRecDepth 100000 in
theorem compare_c (x y : Int) (w : World) : Calls Try.prog 41 #[.int .i64 x, .int .i64 y] w (fun e w' => e = .returned (.int .i64 (cmpI x y)) ∧ Ext none' w w') := by
 refine enter (n := 20) Try.func41 rfl rfl (Nat.le_of_ble_eq_true rfl) ?_
 intro a0 τ0 ha st0
 have e0 : get a0 0 = (.int .i64 (x)) := ha 0 _ rfl
 have e1 : get a0 1 = (.int .i64 (y)) := ha 1 _ rfl
 clear ha
 refine wp_seq ?_
 refine region_St (bf := [0]) (sp := [det _ 4 _]) [] mixed st0 (by kernel_rfl) trivial
  ⟨Ob.d fun c => r_assign rfl rfl, trivial⟩ ?_
 intro a1 w1 τ1 st1 f1
 obtain ⟨e0, e1, -⟩ := f1.ks [(0, _), (1, _)] ⟨e0, e1, trivial⟩
 have e4 : get a1 4 = (.int .i64 (0)) := f1.v 0 rfl
 clear f1
 show Code.wp _ _ _ a1 w1
 refine wp_seq ?_
 refine region_St (bf := [0, 1, 3]) (sp := [det _ 7 _, det _ 8 _, det _ 5 _]) [] mixed st1 (by kernel_rfl) trivial
  ⟨Ob.d fun c => r_move rfl (c.p e0),
  Ob.c fun c => ⟨_, _, (e_call1 rfl rfl Try.call51 (c.n 0 rfl)), isNaN_c x _⟩,
  Ob.d fun c => r_assign rfl (c.n 1 rfl), trivial⟩ ?_
 intro a2 w2 τ2 st2 f2
 obtain ⟨e0, e1, e4, -⟩ := f2.ks [(0, _), (1, _), (4, _)] ⟨e0, e1, e4, trivial⟩
 have e5 : get a2 5 = (.bool (false)) := f2.v 2 rfl
 clear f2
 show Code.wp _ _ _ a2 w2
 refine wp_seq ?_
 refine region_St (bf := [0, 1, 3]) (sp := [det _ 9 _, det _ 10 _, det _ 6 _]) [] mixed st2 (by kernel_rfl) trivial
  ⟨Ob.d fun c => r_move rfl (c.p e1),
  Ob.c fun c => ⟨_, _, (e_call1 rfl rfl Try.call51 (c.n 0 rfl)), isNaN_c y _⟩,
  Ob.d fun c => r_assign rfl (c.n 1 rfl), trivial⟩ ?_
 intro a3 w3 τ3 st3 f3
 obtain ⟨e0, e1, e4, e5, -⟩ := f3.ks [(0, _), (1, _), (4, _), (5, _)] ⟨e0, e1, e4, e5, trivial⟩
 have e6 : get a3 6 = (.bool (false)) := f3.v 2 rfl
 clear f3
 show Code.wp _ _ _ a3 w3
 refine wp_seq ?_
 refine wp_seq ?_
 refine region_St (bf := [0]) (sp := [det _ 11 _]) [] mixed st3 (by kernel_rfl) trivial
  ⟨Ob.d fun c => r_move rfl (c.p e5), trivial⟩ ?_
 intro a4 w4 τ4 st4 f4
 obtain ⟨e0, e1, e4, e6, -⟩ := f4.ks [(0, _), (1, _), (4, _), (6, _)] ⟨e0, e1, e4, e6, trivial⟩
 have e11 : get a4 11 = (.bool (false)) := f4.v 0 rfl
 clear f4
 show Code.wp _ _ _ a4 w4
 refine wp_cond_false e11 ?_
 refine wp_skip ?_
 show Code.wp _ _ _ a4 w4
 refine wp_seq ?_
 refine wp_seq ?_
 refine region_St (bf := [0]) (sp := [det _ 13 _]) [] mixed st4 (by kernel_rfl) trivial
  ⟨Ob.d fun c => r_move rfl (c.p e6), trivial⟩ ?_
 intro a5 w5 τ5 st5 f5
 obtain ⟨e0, e1, e4, -⟩ := f5.ks [(0, _), (1, _), (4, _)] ⟨e0, e1, e4, trivial⟩
 have e13 : get a5 13 = (.bool (false)) := f5.v 0 rfl
 clear f5
 show Code.wp _ _ _ a5 w5
 refine wp_cond_false e13 ?_
 refine wp_skip ?_
 show Code.wp _ _ _ a5 w5
 refine wp_seq ?_
 refine wp_seq ?_
 refine region_St (bf := [0, 0, 3]) (sp := [det _ 14 _, det _ 15 _, det _ 16 _]) [] mixed st5 (by kernel_rfl) trivial
  ⟨Ob.d fun c => r_move rfl (c.p e0),
  Ob.d fun c => r_move rfl (c.p e1),
  Ob.d fun c => r_lss rfl (c.n 0 rfl) (c.n 1 rfl), trivial⟩ ?_
 intro a6 w6 τ6 st6 f6
 obtain ⟨e0, e1, e4, -⟩ := f6.ks [(0, _), (1, _), (4, _)] ⟨e0, e1, e4, trivial⟩
 have e16 : get a6 16 = (.bool (decide (x < y))) := f6.v 2 rfl
 clear f6
 show Code.wp _ _ _ a6 w6
 refine wp_cond_split (t := decide (x < y)) e16 (fun hc3 => ?_) (fun hc3 => ?_)
 · try simp only [decide_eq_true_eq] at hc3
   refine wp_seq ?_
   refine region_St (bf := [0]) (sp := [det _ 4 _]) [] mixed st6 (by kernel_rfl) trivial
    ⟨Ob.d fun c => r_assign rfl rfl, trivial⟩ ?_
   intro a7 w7 τ7 st7 f7
   obtain ⟨e0, e1, -⟩ := f7.ks [(0, _), (1, _)] ⟨e0, e1, trivial⟩
   have e4 : get a7 4 = (.int .i64 ((-1))) := f7.v 0 rfl
   clear f7
   show Code.wp _ _ _ a7 w7
   refine wp_ret ?_
   repeat (first | with_reducible refine then_ret ?_ | with_reducible refine block_ret ?_)
   refine ret1 (fn := Try.f41) rfl st7.defers e4 ?_
   exact ⟨congrArg _ (int_eq (by unfold cmpI; split <;> (try split) <;> omega)), st7.ext0⟩
 try simp only [decide_eq_false_iff_not, Int.not_lt] at hc3
 refine wp_skip ?_
 show Code.wp _ _ _ a6 w6
 refine wp_seq ?_
 refine wp_seq ?_
 refine region_St (bf := [0, 0, 3]) (sp := [det _ 17 _, det _ 18 _, det _ 19 _]) [] mixed st6 (by kernel_rfl) trivial
  ⟨Ob.d fun c => r_move rfl (c.p e0),
  Ob.d fun c => r_move rfl (c.p e1),
  Ob.d fun c => r_gtr rfl (c.n 0 rfl) (c.n 1 rfl), trivial⟩ ?_
 intro a8 w8 τ8 st8 f8
 obtain ⟨e4, -⟩ := f8.ks [(4, _)] ⟨e4, trivial⟩
 have e19 : get a8 19 = (.bool (decide (y < x))) := f8.v 2 rfl
 clear f8
 show Code.wp _ _ _ a8 w8
 refine wp_cond_split (t := decide (y < x)) e19 (fun hc4 => ?_) (fun hc4 => ?_)
 · try simp only [decide_eq_true_eq] at hc4
   refine wp_seq ?_
   refine region_St (bf := [0]) (sp := [det _ 4 _]) [] mixed st8 (by kernel_rfl) trivial
    ⟨Ob.d fun c => r_assign rfl rfl, trivial⟩ ?_
   intro a9 w9 τ9 st9 f9
   have e4 : get a9 4 = (.int .i64 (1)) := f9.v 0 rfl
   clear f9
   show Code.wp _ _ _ a9 w9
   refine wp_ret ?_
   repeat (first | with_reducible refine then_ret ?_ | with_reducible refine block_ret ?_)
   refine ret1 (fn := Try.f41) rfl st9.defers e4 ?_
   exact ⟨congrArg _ (int_eq (by unfold cmpI; split <;> (try split) <;> omega)), st9.ext0⟩
 try simp only [decide_eq_false_iff_not, Int.not_lt] at hc4
 refine wp_skip ?_
 show Code.wp _ _ _ a8 w8
 refine wp_seq ?_
 refine region_St (bf := [0]) (sp := [det _ 4 _]) [] mixed st8 (by kernel_rfl) trivial
  ⟨Ob.d fun c => r_assign rfl rfl, trivial⟩ ?_
 intro a10 w10 τ10 st10 f10
 have e4 : get a10 4 = (.int .i64 (0)) := f10.v 0 rfl
 clear f10
 show Code.wp _ _ _ a10 w10
 refine wp_ret ?_
 repeat (first | with_reducible refine then_ret ?_ | with_reducible refine block_ret ?_)
 refine ret1 (fn := Try.f41) rfl st10.defers e4 ?_
 exact ⟨congrArg _ (int_eq (by unfold cmpI; split <;> (try split) <;> omega)), st10.ext0⟩

set_option maxRecDepth 100000 in
theorem or_c (v : Value) (xs : List Int) (w : World) (hS : SlT IntE w v xs) : Calls Try.prog 40 #[v] w (fun e w' => e = .returned (.int .i64 (orF xs)) ∧ Ext none' w w') := by
 refine enter (n := 18) Try.func40 rfl rfl (Nat.le_of_ble_eq_true rfl) ?_
 intro a0 τ0 ha st0
 have e0 : get a0 0 = v := ha 0 _ rfl
 clear ha
 have hle := hS.le
 refine wp_seq ?_
 refine region_St (bf := [0]) (sp := [det _ 2 _]) [] mixed st0 (by kernel_rfl) trivial
  ⟨Ob.d fun c => r_assign rfl rfl, trivial⟩ ?_
 intro a1 w1 τ1 st1 f1
 obtain ⟨e0, -⟩ := f1.ks [(0, _)] ⟨e0, trivial⟩
 have e2 : get a1 2 = (.int .i64 (0)) := f1.v 0 rfl
 clear f1
 show Code.wp _ _ _ a1 w1
 refine wp_seq ?_
 refine region_St (bf := [0]) (sp := [det _ 3 _]) [] mixed st1 (by kernel_rfl) trivial
  ⟨Ob.d fun c => r_assign rfl rfl, trivial⟩ ?_
 intro a2 w2 τ2 st2 f2
 obtain ⟨e0, e2, -⟩ := f2.ks [(0, _), (2, _)] ⟨e0, e2, trivial⟩
 have e3 : get a2 3 = (.int .i64 (0)) := f2.v 0 rfl
 clear f2
 show Code.wp _ _ _ a2 w2
 refine wp_seq ?_
 refine wp_seq ?_
 refine region_St (bf := [0, 1, 0]) (sp := [det _ 6 _, det _ 7 _, det _ 8 _]) [] mixed st2 (by kernel_rfl) trivial
  ⟨Ob.d fun c => r_move rfl (c.p e0),
  Ob.d fun c => r_len rfl Try.underlying75 (c.n 0 rfl) hS.sl,
  Ob.d fun c => r_move rfl rfl, trivial⟩ ?_
 intro a3 w3 τ3 st3 f3
 obtain ⟨e2, e3, -⟩ := f3.ks [(2, _), (3, _)] ⟨e2, e3, trivial⟩
 have e6 : get a3 6 = v := f3.v 0 rfl
 have e7 : get a3 7 = (.int .i64 ((xs.length : Int))) := f3.v 1 rfl
 have e8 : get a3 8 = (.int .i64 (0)) := f3.v 2 rfl
 clear f3
 show Code.wp _ _ _ a3 w3
 refine wp_block ?_
 refine wp_loop (fun a_ w_ => ∃ (k : Nat) (τ : Nat → Foot), (k ≤ xs.length) ∧
      (∀ x ∈ xs.take k, x = 0) ∧
      St (Nw w) w 18 a_ w_ τ ∧
      get a_ 8 = (.int .i64 ((k : Int))) ∧
      get a_ 3 = (.int .i64 (0)) ∧
      get a_ 6 = v ∧
      get a_ 7 = (.int .i64 ((xs.length : Int)))) (fun a_ _ => xs.length - (intOf (get a_ 8)).toNat) ?_ ?_
 · refine ⟨0, τ3, ?_, ?_, st3, (e8.trans (int_eq (by omega))), e3, e6, e7⟩
   · omega
   · simp
 intro a4 w4 hI
 obtain ⟨k, τ4, q0, q1, st4, e8, e3, e6, e7⟩ := hI
 have m8 := e8
 refine wp_seq ?_
 refine region_St (bf := [0]) (sp := [det _ 9 _]) [] mixed st4 (by kernel_rfl) trivial
  ⟨Ob.d fun c => r_lss rfl (c.p e8) (c.p e7), trivial⟩ ?_
 intro a5 w5 τ5 st5 f5
 obtain ⟨e3, e6, e7, e8, -⟩ := f5.ks [(3, _), (6, _), (7, _), (8, _)] ⟨e3, e6, e7, e8, trivial⟩
 have e9 : get a5 9 = (.bool (decide ((k : Int) < (xs.length : Int)))) := f5.v 0 rfl
 clear f5
 show Code.wp _ _ _ a5 w5
 refine wp_seq ?_
 refine wp_cond_split (t := decide ((k : Int) < (xs.length : Int))) e9 (fun hc1 => ?_) (fun hc1 => ?_)
 · try simp only [decide_eq_true_eq] at hc1
   refine wp_skip ?_
   show Code.wp _ _ _ a5 w5
   refine wp_seq ?_
   refine wp_block ?_
   refine wp_seq ?_
   refine region_St (bf := [0, 1, 3]) (sp := [det _ 10 _, det _ 11 _, det _ 5 _]) [] mixed st5 (by kernel_rfl) trivial
    ⟨Ob.d fun c => r_indexAddr rfl Try.underlying75 Try.sizeOf3 (c.p e6) hS.sl (c.p e8) (by omega) (by omega),
    Ob.d fun c => r_load1 rfl Try.isAgg3 (c.n 0 rfl) (((hS.at (st5.ext.trans c.J.ext))).elem (j := 0) (nth_some (i := (k : Int)) (by omega) (by omega)) rfl),
    Ob.d fun c => r_assign rfl (c.n 1 rfl), trivial⟩ ?_
   intro a6 w6 τ6 st6 f6
   obtain ⟨e3, e6, e7, e8, e9, -⟩ := f6.ks [(3, _), (6, _), (7, _), (8, _), (9, _)] ⟨e3, e6, e7, e8, e9, trivial⟩
   have e5 : get a6 5 = (.int .i64 ((nth xs ((k : Int))))) := f6.v 2 rfl
   clear f6
   show Code.wp _ _ _ a6 w6
   refine wp_seq ?_
   refine region_St (bf := [0, 0, 3]) (sp := [det _ 12 _, det _ 13 _, det _ 14 _]) [] mixed st6 (by kernel_rfl) trivial
    ⟨Ob.d fun c => r_move rfl (c.p e5),
    Ob.d fun c => r_move rfl (c.p e3),
    Ob.d fun c => r_neq rfl (c.n 0 rfl) (c.n 1 rfl), trivial⟩ ?_
   intro a7 w7 τ7 st7 f7
   obtain ⟨e3, e5, e6, e7, e8, e9, -⟩ := f7.ks [(3, _), (5, _), (6, _), (7, _), (8, _), (9, _)] ⟨e3, e5, e6, e7, e8, e9, trivial⟩
   have e14 : get a7 14 = (.bool (!decide ((nth xs ((k : Int))) = 0))) := f7.v 2 rfl
   clear f7
   show Code.wp _ _ _ a7 w7
   refine wp_cond_split (t := !decide ((nth xs ((k : Int))) = 0)) e14 (fun hc2 => ?_) (fun hc2 => ?_)
   · try simp only [Bool.not_eq_true', Bool.not_eq_false', decide_eq_true_eq, decide_eq_false_iff_not] at hc2
     refine wp_seq ?_
     refine region_St (bf := [0, 1]) (sp := [det _ 15 _, det _ 2 _]) [] mixed st7 (by kernel_rfl) trivial
      ⟨Ob.d fun c => r_move rfl (c.p e5),
      Ob.d fun c => r_assign rfl (c.n 0 rfl), trivial⟩ ?_
     intro a8 w8 τ8 st8 f8
     obtain ⟨e3, e5, e6, e7, e8, e9, e14, -⟩ := f8.ks [(3, _), (5, _), (6, _), (7, _), (8, _), (9, _), (14, _)] ⟨e3, e5, e6, e7, e8, e9, e14, trivial⟩
     have e2 : get a8 2 = (.int .i64 ((nth xs ((k : Int))))) := f8.v 1 rfl
     clear f8
     show Code.wp _ _ _ a8 w8
     refine wp_ret ?_
     repeat (first | with_reducible refine then_ret ?_ | with_reducible refine block_ret ?_)
     refine ret1 (fn := Try.f40) rfl st8.defers e2 ?_
     exact ⟨congrArg _ (int_eq (by first | exact (orF_hit q1 (by omega) (by assumption)).symm | exact (orF_miss q0 q1 (by assumption)).symm)), st8.ext0⟩
   try simp only [Bool.not_eq_true', Bool.not_eq_false', decide_eq_true_eq, decide_eq_false_iff_not] at hc2
   refine wp_skip ?_
   show _
   show Code.wp _ _ _ a7 w7
   refine region_St (bf := [0, 1]) (sp := [det _ 16 _, det _ 8 _]) [] mixed st7 (by kernel_rfl) trivial
    ⟨Ob.d fun c => r_add rfl (c.p e8) rfl (by omega),
    Ob.d fun c => r_move rfl (c.n 0 rfl), trivial⟩ ?_
   intro a9 w9 τ9 st9 f9
   obtain ⟨e3, e5, e6, e7, e9, e14, -⟩ := f9.ks [(3, _), (5, _), (6, _), (7, _), (9, _), (14, _)] ⟨e3, e5, e6, e7, e9, e14, trivial⟩
   have e8 : get a9 8 = (.int .i64 ((k : Int) + 1)) := f9.v 1 rfl
   clear f9
   refine ⟨⟨k + 1, τ9, ?_, ?_, st9, (e8.trans (int_eq (by omega))), e3, e6, e7⟩, ?_⟩
   · omega
   · exact take_zero (by omega) q1 (by assumption)
   · simp only [m8, e8, intOf]; omega
 try simp only [decide_eq_false_iff_not, Int.not_lt] at hc1
 refine wp_exit ?_
 repeat (with_reducible refine then_exit ?_)
 refine exit_here ?_
 show Code.wp _ _ _ a5 w5
 refine wp_seq ?_
 refine region_St (bf := [0, 1]) (sp := [det _ 17 _, det _ 2 _]) [] mixed st5 (by kernel_rfl) trivial
  ⟨Ob.d fun c => r_move rfl (c.p e3),
  Ob.d fun c => r_assign rfl (c.n 0 rfl), trivial⟩ ?_
 intro a10 w10 τ10 st10 f10
 have e2 : get a10 2 = (.int .i64 (0)) := f10.v 1 rfl
 clear f10
 show Code.wp _ _ _ a10 w10
 refine wp_ret ?_
 repeat (first | with_reducible refine then_ret ?_ | with_reducible refine block_ret ?_)
 refine ret1 (fn := Try.f40) rfl st10.defers e2 ?_
 exact ⟨congrArg _ (int_eq (by first | exact (orF_hit q1 (by omega) (by assumption)).symm | exact (orF_miss q0 q1 (by assumption)).symm)), st10.ext0⟩

set_option maxRecDepth 100000 in
theorem byFrom_c (p q : Int × Int) (w : World) : Calls Try.prog 47 #[spanV p, spanV q] w (fun e w' => e = .returned (.int .i64 (cmpS p q)) ∧ Ext none' w w') := by
 refine enter (n := 17) Try.func47 rfl rfl (Nat.le_of_ble_eq_true rfl) ?_
 intro a0 τ0 ha st0
 have e0 : get a0 0 = (.agg #[(.int .i64 (p.1)), (.int .i64 (p.2))]) := ha 0 _ rfl
 have e1 : get a0 1 = (.agg #[(.int .i64 (q.1)), (.int .i64 (q.2))]) := ha 1 _ rfl
 clear ha
 refine wp_seq ?_
 refine region_St (bf := [0, 0, 0]) (sp := [box _ _ 0 2 [(.int .i64 (p.1)), (.int .i64 (p.2))], box _ _ 1 3 [(.int .i64 (q.1)), (.int .i64 (q.2))], det _ 4 _]) [] mixed st0 (by kernel_rfl) trivial
  ⟨Ob.box (v := (.agg #[(.int .i64 (p.1)), (.int .i64 (p.2))])) rfl rfl rfl rfl rfl (fun _ _ _ _ c => (c.p e0)),
  Ob.box (v := (.agg #[(.int .i64 (q.1)), (.int .i64 (q.2))])) rfl rfl rfl rfl rfl (fun _ _ _ _ c => (c.p e1)),
  Ob.d fun c => r_assign rfl rfl, trivial⟩ ?_
 intro a1 w1 τ1 st1 f1
 obtain ⟨b1x2, e2⟩ : ∃ b, get a1 2 = b := ⟨_, rfl⟩
 obtain ⟨b1x3, e3⟩ : ∃ b, get a1 3 = b := ⟨_, rfl⟩
 have e4 : get a1 4 = (.int .i64 (0)) := f1.v 2 rfl
 have r0 : boxR 43 [(.int .i64 (p.1)), (.int .i64 (p.2))] (τ1 0) b1x2 w1 := f1.rb 0 e2 rfl
 have r1 : boxR 43 [(.int .i64 (q.1)), (.int .i64 (q.2))] (τ1 1) b1x3 w1 := f1.rb 1 e3 rfl
 clear f1
 show Code.wp _ _ _ a1 w1
 refine wp_seq ?_
 refine region_St (bf := [0, 1, 0, 4, 15, 0, 32, 0, 128, 511, 1023, 2047, 4095]) (sp := [det _ 5 _, det _ 6 _, det _ 7 _, det _ 8 _, det _ 9 _, det _ 10 _, det _ 11 _, det _ 12 _, det _ 13 _, det _ 14 _, own IntE 3 _ 2 15 ([cmpI p.1 q.1, cmpI p.2 q.2]), det _ 16 _, det _ 4 _]) [ib r0, ib r1] mixed st1 (by kernel_rfl) ⟨r0, r1, trivial⟩
  ⟨Ob.d fun c => r_fieldAddr rfl Try.underlying43 rfl rfl Try.sizeOf3 ((c.p e2).trans r0.ptr),
  Ob.d fun c => r_load1 rfl Try.isAgg3 (c.n 0 rfl) ((c.ib 0 rfl).cell (j := 0) rfl),
  Ob.d fun c => r_fieldAddr rfl Try.underlying43 rfl rfl Try.sizeOf3 ((c.p e3).trans r1.ptr),
  Ob.d fun c => r_load1 rfl Try.isAgg3 (c.n 2 rfl) ((c.ib 1 rfl).cell (j := 0) rfl),
  Ob.c fun c => ⟨_, _, (e_call2 rfl rfl Try.call41 (c.n 1 rfl) (c.n 3 rfl)), compare_c p.1 q.1 _⟩,
  Ob.d fun c => r_fieldAddr rfl Try.underlying43 rfl rfl Try.sizeOf3 ((c.p e2).trans r0.ptr),
  Ob.d fun c => r_load1 rfl Try.isAgg3 (c.n 5 rfl) ((c.ib 0 rfl).cell (j := 1) rfl),
  Ob.d fun c => r_fieldAddr rfl Try.underlying43 rfl rfl Try.sizeOf3 ((c.p e3).trans r1.ptr),
  Ob.d fun c => r_load1 rfl Try.isAgg3 (c.n 7 rfl) ((c.ib 1 rfl).cell (j := 1) rfl),
  Ob.c fun c => ⟨_, _, (e_call2 rfl rfl Try.call41 (c.n 6 rfl) (c.n 8 rfl)), compare_c p.2 q.2 _⟩,
  Ob.buildSlice (cells := #[(.int .i64 (cmpI p.1 q.1)), (.int .i64 (cmpI p.2 q.2))]) rfl rfl rfl rfl Try.underlying75 Try.sizeOf3 Try.zeroValue3 rfl (by decide) (by decide) (fun _ _ _ _ c => fill2 (c.n 4 rfl) (c.n 9 rfl) (by kernel_rfl)) rfl,
  Ob.c fun c => ⟨_, _, (e_call1 rfl rfl Try.call40 (eval_tmp _ 15)), or_c _ _ _ (c.ro 10 rfl).1.sl⟩,
  Ob.d fun c => r_assign rfl (c.n 11 rfl), trivial⟩ ?_
 intro a2 w2 τ2 st2 f2
 obtain ⟨b2x15, e15⟩ : ∃ b, get a2 15 = b := ⟨_, rfl⟩
 have e4 : get a2 4 = (.int .i64 (orF ([cmpI p.1 q.1, cmpI p.2 q.2]))) := f2.v 12 rfl
 clear f2
 show Code.wp _ _ _ a2 w2
 refine wp_ret ?_
 repeat (first | with_reducible refine then_ret ?_ | with_reducible refine block_ret ?_)
 refine ret1 (fn := Try.f47) rfl st2.defers e4 ?_
 exact ⟨rfl, st2.ext0⟩

set_option maxRecDepth 100000 in
theorem low_c (x n : Int) (w : World) (hn : 0 < n) (hn2 : n ≤ 9223372036854775807) : Calls Try.prog 28 #[.int .i64 x, .int .i64 n] w (fun e w' => e = .returned (.int .i64 (lowF x n)) ∧ Ext none' w w') := by
 refine enter (n := 11) Try.func28 rfl rfl (Nat.le_of_ble_eq_true rfl) ?_
 intro a0 τ0 ha st0
 have e0 : get a0 0 = (.int .i64 (x)) := ha 0 _ rfl
 have e1 : get a0 1 = (.int .i64 (n)) := ha 1 _ rfl
 clear ha
 refine wp_seq ?_
 refine region_St (bf := [0]) (sp := [det _ 4 _]) [] mixed st0 (by kernel_rfl) trivial
  ⟨Ob.d fun c => r_assign rfl rfl, trivial⟩ ?_
 intro a1 w1 τ1 st1 f1
 obtain ⟨e0, e1, -⟩ := f1.ks [(0, _), (1, _)] ⟨e0, e1, trivial⟩
 have e4 : get a1 4 = (.int .i64 (0)) := f1.v 0 rfl
 clear f1
 show Code.wp _ _ _ a1 w1
 refine wp_seq ?_
 refine region_St (bf := [0, 1, 0, 4, 15, 31, 63]) (sp := [det _ 5 _, det _ 6 _, det _ 7 _, det _ 8 _, det _ 9 _, det _ 10 _, det _ 4 _]) [] mixed st1 (by kernel_rfl) trivial
  ⟨Ob.d fun c => r_move rfl (c.p e0),
  Ob.d fun c => r_conv rfl Try.underlying3 Try.underlying70 (c.n 0 rfl),
  Ob.d fun c => r_move rfl (c.p e1),
  Ob.d fun c => r_conv rfl Try.underlying3 Try.underlying70 (c.n 2 rfl),
  Ob.d fun c => r_rem rfl (c.n 1 rfl) (c.n 3 rfl) (by exact u64_pos hn hn2),
  Ob.d fun c => r_conv rfl Try.underlying70 Try.underlying3 (c.n 4 rfl),
  Ob.d fun c => r_assign rfl (c.n 5 rfl), trivial⟩ ?_
 intro a2 w2 τ2 st2 f2
 have e4 : get a2 4 = (.int .i64 (IntKind.i64.wrap ((IntKind.u64.wrap (x)).tmod (IntKind.u64.wrap (n))))) := f2.v 6 rfl
 clear f2
 show Code.wp _ _ _ a2 w2
 refine wp_ret ?_
 repeat (first | with_reducible refine then_ret ?_ | with_reducible refine block_ret ?_)
 refine ret1 (fn := Try.f28) rfl st2.defers e4 ?_
 exact ⟨rfl, st2.ext0⟩

set_option maxRecDepth 100000 in
theorem cmpE_c (p q : Int × Int × ByteArray) (w : World) : Calls Try.prog 39 #[(.agg #[(.int .i64 (p.1)), (.int .i64 (p.2.1)), (.string (p.2.2))]), (.agg #[(.int .i64 (q.1)), (.int .i64 (q.2.1)), (.string (q.2.2))])] w (fun e w' => e = .returned (.int .i64 (cmpE p q)) ∧ Ext none' w w') := by
 refine enter (n := 21) Try.func39 rfl rfl (Nat.le_of_ble_eq_true rfl) ?_
 intro a0 τ0 ha st0
 have e0 : get a0 0 = (.agg #[(.int .i64 (p.1)), (.int .i64 (p.2.1)), (.string (p.2.2))]) := ha 0 _ rfl
 have e1 : get a0 1 = (.agg #[(.int .i64 (q.1)), (.int .i64 (q.2.1)), (.string (q.2.2))]) := ha 1 _ rfl
 clear ha
 refine wp_seq ?_
 refine region_St (bf := [0, 0, 0]) (sp := [box _ _ 0 2 [(.int .i64 (p.1)), (.int .i64 (p.2.1)), (.string (p.2.2))], box _ _ 1 3 [(.int .i64 (q.1)), (.int .i64 (q.2.1)), (.string (q.2.2))], det _ 4 _]) [] mixed st0 (by kernel_rfl) trivial
  ⟨Ob.box (v := (.agg #[(.int .i64 (p.1)), (.int .i64 (p.2.1)), (.string (p.2.2))])) rfl rfl rfl rfl rfl (fun _ _ _ _ c => (c.p e0)),
  Ob.box (v := (.agg #[(.int .i64 (q.1)), (.int .i64 (q.2.1)), (.string (q.2.2))])) rfl rfl rfl rfl rfl (fun _ _ _ _ c => (c.p e1)),
  Ob.d fun c => r_assign rfl rfl, trivial⟩ ?_
 intro a1 w1 τ1 st1 f1
 obtain ⟨b1x2, e2⟩ : ∃ b, get a1 2 = b := ⟨_, rfl⟩
 obtain ⟨b1x3, e3⟩ : ∃ b, get a1 3 = b := ⟨_, rfl⟩
 have e4 : get a1 4 = (.int .i64 (0)) := f1.v 2 rfl
 have r0 : boxR 45 [(.int .i64 (p.1)), (.int .i64 (p.2.1)), (.string (p.2.2))] (τ1 0) b1x2 w1 := f1.rb 0 e2 rfl
 have r1 : boxR 45 [(.int .i64 (q.1)), (.int .i64 (q.2.1)), (.string (q.2.2))] (τ1 1) b1x3 w1 := f1.rb 1 e3 rfl
 clear f1
 show Code.wp _ _ _ a1 w1
 refine wp_seq ?_
 refine region_St (bf := [0, 1, 3, 0, 8, 24, 63, 0, 128, 384, 0, 1024, 3072, 8191, 16383, 32767, 65535]) (sp := [det _ 5 _, det _ 6 _, det _ 7 _, det _ 8 _, det _ 9 _, det _ 10 _, det _ 11 _, det _ 12 _, det _ 13 _, det _ 14 _, det _ 15 _, det _ 16 _, det _ 17 _, det _ 18 _, own IntE 3 _ 2 19 ([cmpI p.1 q.1, cmpI p.2.1 q.2.1]), det _ 20 _, det _ 4 _]) [ib r0, ib r1] mixed st1 (by kernel_rfl) ⟨r0, r1, trivial⟩
  ⟨Ob.d fun c => r_fieldAddr rfl Try.underlying45 rfl rfl Try.sizeOf43 ((c.p e2).trans r0.ptr),
  Ob.d fun c => r_fieldAddr rfl Try.underlying43 rfl rfl Try.sizeOf3 (c.n 0 rfl),
  Ob.d fun c => r_load1 rfl Try.isAgg3 (c.n 1 rfl) (by rw [add_add]; exact (c.ib 0 rfl).cell (j := 0) rfl),
  Ob.d fun c => r_fieldAddr rfl Try.underlying45 rfl rfl Try.sizeOf43 ((c.p e3).trans r1.ptr),
  Ob.d fun c => r_fieldAddr rfl Try.underlying43 rfl rfl Try.sizeOf3 (c.n 3 rfl),
  Ob.d fun c => r_load1 rfl Try.isAgg3 (c.n 4 rfl) (by rw [add_add]; exact (c.ib 1 rfl).cell (j := 0) rfl),
  Ob.c fun c => ⟨_, _, (e_call2 rfl rfl Try.call41 (c.n 2 rfl) (c.n 5 rfl)), compare_c p.1 q.1 _⟩,
  Ob.d fun c => r_fieldAddr rfl Try.underlying45 rfl rfl Try.sizeOf43 ((c.p e2).trans r0.ptr),
  Ob.d fun c => r_fieldAddr rfl Try.underlying43 rfl rfl Try.sizeOf3 (c.n 7 rfl),
  Ob.d fun c => r_load1 rfl Try.isAgg3 (c.n 8 rfl) (by rw [add_add]; exact (c.ib 0 rfl).cell (j := 1) rfl),
  Ob.d fun c => r_fieldAddr rfl Try.underlying45 rfl rfl Try.sizeOf43 ((c.p e3).trans r1.ptr),
  Ob.d fun c => r_fieldAddr rfl Try.underlying43 rfl rfl Try.sizeOf3 (c.n 10 rfl),
  Ob.d fun c => r_load1 rfl Try.isAgg3 (c.n 11 rfl) (by rw [add_add]; exact (c.ib 1 rfl).cell (j := 1) rfl),
  Ob.c fun c => ⟨_, _, (e_call2 rfl rfl Try.call41 (c.n 9 rfl) (c.n 12 rfl)), compare_c p.2.1 q.2.1 _⟩,
  Ob.buildSlice (cells := #[(.int .i64 (cmpI p.1 q.1)), (.int .i64 (cmpI p.2.1 q.2.1))]) rfl rfl rfl rfl Try.underlying75 Try.sizeOf3 Try.zeroValue3 rfl (by decide) (by decide) (fun _ _ _ _ c => fill2 (c.n 6 rfl) (c.n 13 rfl) (by kernel_rfl)) rfl,
  Ob.c fun c => ⟨_, _, (e_call1 rfl rfl Try.call40 (eval_tmp _ 19)), or_c _ _ _ (c.ro 14 rfl).1.sl⟩,
  Ob.d fun c => r_assign rfl (c.n 15 rfl), trivial⟩ ?_
 intro a2 w2 τ2 st2 f2
 obtain ⟨b2x19, e19⟩ : ∃ b, get a2 19 = b := ⟨_, rfl⟩
 have e4 : get a2 4 = (.int .i64 (orF ([cmpI p.1 q.1, cmpI p.2.1 q.2.1]))) := f2.v 16 rfl
 clear f2
 show Code.wp _ _ _ a2 w2
 refine wp_ret ?_
 repeat (first | with_reducible refine then_ret ?_ | with_reducible refine block_ret ?_)
 refine ret1 (fn := Try.f39) rfl st2.defers e4 ?_
 exact ⟨rfl, st2.ext0⟩

set_option maxRecDepth 100000 in
theorem len_c (p : Int × Int) (w : World) : Calls Try.prog 30 #[spanV p] w (fun e w' => e = .returned (.int .i64 (lenW p)) ∧ Ext none' w w') := by
 refine enter (n := 8) Try.func30 rfl rfl (Nat.le_of_ble_eq_true rfl) ?_
 intro a0 τ0 ha st0
 have e0 : get a0 0 = (.agg #[(.int .i64 (p.1)), (.int .i64 (p.2))]) := ha 0 _ rfl
 clear ha
 refine wp_seq ?_
 refine region_St (bf := [0, 0]) (sp := [box _ _ 0 1 [(.int .i64 (p.1)), (.int .i64 (p.2))], det _ 2 _]) [] mixed st0 (by kernel_rfl) trivial
  ⟨Ob.box (v := (.agg #[(.int .i64 (p.1)), (.int .i64 (p.2))])) rfl rfl rfl rfl rfl (fun _ _ _ _ c => (c.p e0)),
  Ob.d fun c => r_assign rfl rfl, trivial⟩ ?_
 intro a1 w1 τ1 st1 f1
 obtain ⟨b1x1, e1⟩ : ∃ b, get a1 1 = b := ⟨_, rfl⟩
 have e2 : get a1 2 = (.int .i64 (0)) := f1.v 1 rfl
 have r0 : boxR 43 [(.int .i64 (p.1)), (.int .i64 (p.2))] (τ1 0) b1x1 w1 := f1.rb 0 e1 rfl
 clear f1
 show Code.wp _ _ _ a1 w1
 refine wp_seq ?_
 refine region_St (bf := [0, 1, 0, 4, 15, 31]) (sp := [det _ 3 _, det _ 4 _, det _ 5 _, det _ 6 _, det _ 7 _, det _ 2 _]) [ib r0] mixed st1 (by kernel_rfl) ⟨r0, trivial⟩
  ⟨Ob.d fun c => r_fieldAddr rfl Try.underlying43 rfl rfl Try.sizeOf3 ((c.p e1).trans r0.ptr),
  Ob.d fun c => r_load1 rfl Try.isAgg3 (c.n 0 rfl) ((c.ib 0 rfl).cell (j := 1) rfl),
  Ob.d fun c => r_fieldAddr rfl Try.underlying43 rfl rfl Try.sizeOf3 ((c.p e1).trans r0.ptr),
  Ob.d fun c => r_load1 rfl Try.isAgg3 (c.n 2 rfl) ((c.ib 0 rfl).cell (j := 0) rfl),
  Ob.d fun c => r_subW rfl (c.n 1 rfl) (c.n 3 rfl),
  Ob.d fun c => r_assign rfl (c.n 4 rfl), trivial⟩ ?_
 intro a2 w2 τ2 st2 f2
 have e2 : get a2 2 = (.int .i64 (IntKind.i64.wrap (p.2 - p.1))) := f2.v 5 rfl
 clear f2
 show Code.wp _ _ _ a2 w2
 refine wp_ret ?_
 repeat (first | with_reducible refine then_ret ?_ | with_reducible refine block_ret ?_)
 refine ret1 (fn := Try.f30) rfl st2.defers e2 ?_
 exact ⟨rfl, st2.ext0⟩
end B
end Go.Proofs.Ytfkjmkngiiokmaa
