/-
  The walks over package span and its reference, function by function: what each call hands back. Printed by a program (gen.py).
-/
import Derived.Test.YtgcpgdhadeekcaaBase6
import Derived.Test.YtgcpgdhadeekcaaChecked
set_option linter.unusedSimpArgs false
set_option linter.unusedVariables false
namespace Go.Proofs.Ytgcpgdhadeekcaa
namespace B
open Go.RowKit
theorem mixed : Try.prog.follows .mixedOrders = true := by kernel_rfl
def lessB (p q : Int × Int) : Bool := decide (p.1 < q.1) || (decide (p.1 = q.1) && decide (p.2 < q.2))
def touchB (p q : Int × Int) : Bool := decide (max p.1 q.1 ≤ min p.2 q.2)
def overlapB (p q : Int × Int) : Bool := decide (max p.1 q.1 < min p.2 q.2)
def withinB (p q : Int × Int) : Bool := decide (q.1 ≤ p.1) && decide (p.2 ≤ q.2)
def hasB (p : Int × Int) (n : Int) : Bool := decide (p.1 ≤ n) && decide (n ≤ p.2)
def mayB (p : Int × Int) (n : Int) : Bool := decide (0 ≤ p.1) && decide (p.1 ≤ p.2) && decide (p.2 ≤ n)
def cmpI (x y : Int) : Int := if x < y then -1 else if y < x then 1 else 0
def orF (xs : List Int) : Int := (xs.find? (fun x => x != 0)).getD 0
def cmpS (p q : Int × Int) : Int := orF [cmpI p.1 q.1, cmpI p.2 q.2]
def lowF (x n : Int) : Int := IntKind.i64.wrap ((IntKind.u64.wrap x).tmod (IntKind.u64.wrap n))
theorem u64_pos {n : Int} (h : 0 < n) (h2 : n ≤ 9223372036854775807) : IntKind.u64.wrap n ≠ 0 := by
  have : IntKind.u64.wrap n = n := by simp [IntKind.wrap, IntKind.signed, IntKind.bits]; omega
  omega
theorem take_snoc {α : Type} [Inhabited α] {xs : List α} {k : Nat} (h : k < xs.length) : xs.take (k + 1) = xs.take k ++ [nth xs k] := by
  rw [List.take_succ_eq_append_getElem h]
  simp [nth, List.getD, List.getElem?_eq_getElem h]
theorem take_zero {xs : List Int} {k : Nat} (h : k < xs.length) (hq : ∀ x ∈ xs.take k, x = 0) (h0 : nth xs (k : Int) = 0) : ∀ x ∈ xs.take (k + 1), x = 0 := by
  rw [take_snoc h]
  intro x hx
  rcases List.mem_append.1 hx with hx | hx
  · exact hq x hx
  · simp at hx; rw [hx]; exact h0
theorem orF_hit {xs : List Int} {k : Nat} (hq : ∀ x ∈ xs.take k, x = 0) (h : k < xs.length) (h0 : ¬ nth xs (k : Int) = 0) : orF xs = nth xs (k : Int) := by
  have e : xs = xs.take k ++ nth xs (k : Int) :: xs.drop (k + 1) := by
    conv => lhs; rw [← List.take_append_drop (k + 1) xs, take_snoc h]
    simp
  have hn : (xs.take k).find? (fun x => x != 0) = none := List.find?_eq_none.2 fun x hx => by simp [hq x hx]
  unfold orF
  rw [e, List.find?_append, hn]
  rw [← e]
  simp [List.find?_cons, h0]
theorem orF_miss {xs : List Int} {k : Nat} (hk : k ≤ xs.length) (hq : ∀ x ∈ xs.take k, x = 0) (h : (xs.length : Int) ≤ k) : orF xs = 0 := by
  rw [List.take_of_length_le (by omega)] at hq
  have hn : xs.find? (fun x => x != 0) = none := List.find?_eq_none.2 fun x hx => by simp [hq x hx]
  simp [orF, hn]
theorem take_same {α : Type} [Inhabited α] {xs ys : List α} {k : Nat} (h : k < xs.length) (h' : k < ys.length) (hq : xs.take k = ys.take k) (h0 : nth xs (k : Int) = nth ys (k : Int)) : xs.take (k + 1) = ys.take (k + 1) := by
  rw [take_snoc h, take_snoc h', hq, h0]
theorem differ {α : Type} [Inhabited α] {xs ys : List α} {i : Int} (h : ¬ nth xs i = nth ys i) : ¬ xs = ys := fun e => h (by rw [e])
theorem all_same {α : Type} {xs ys : List α} {k : Nat} (hl : xs.length = ys.length) (hk : k ≤ xs.length) (hq : xs.take k = ys.take k) (h : (xs.length : Int) ≤ k) : xs = ys := by
  rwa [List.take_of_length_le (by omega), List.take_of_length_le (by omega)] at hq
def spanB (p q : Int × Int) : Bool := decide (p = q)
theorem spanB_eq (p q : Int × Int) : spanB p q = (decide (p.1 = q.1) && decide (p.2 = q.2)) := by
  rw [Bool.eq_iff_iff]; simp [spanB, Prod.ext_iff]
theorem span_run (p q : Int × Int) (w : World) : (Op.equal 29 (spanV p) (spanV q)).run Try.prog w = .ok (spanB p q) w := by
  rw [spanB_eq]
  have h := run_equalIn_struct (P := Try.prog) w 9999 29 #[.int .i64 p.1, .int .i64 p.2] #[.int .i64 q.1, .int .i64 q.2] rfl Try.stoodInHeld29
  simp only [Op.equal, Op.maxDepth, spanV, h]
  simp [Program.fieldsOf, Op.eqFields, part, go_sem]
  by_cases h1 : p.1 = q.1 <;> by_cases h2 : p.2 = q.2 <;> simp [h1, h2]
theorem span_eq {a : Act} {o : Oper} {w : World} {x y : Operand} {t' : TypeId} {p q : Int × Int} (ho : o.op = .binOp .eql 29 x y t') (hx : a.eval x = spanV p) (hy : a.eval y = spanV q) : Runs Try.prog a o w (.bool (spanB p q)) := by
  have h := span_run p q w
  simp only [spanV] at h hx hy
  simp [Runs, execOp, ho, hx, hy, eqGuard, binOp, h]
theorem span_ne {a : Act} {o : Oper} {w : World} {x y : Operand} {t' : TypeId} {p q : Int × Int} (ho : o.op = .binOp .neq 29 x y t') (hx : a.eval x = spanV p) (hy : a.eval y = spanV q) : Runs Try.prog a o w (.bool (!spanB p q)) := by
  have h := span_run p q w
  simp only [spanV] at h hx hy
  simp [Runs, execOp, ho, hx, hy, eqGuard, binOp, h]
set_option maxRecDepth 100000 in
theorem refLess_c (p q : Int × Int) (w : World) : Calls Try.prog 35 #[spanV p, spanV q] w (fun e w' => e = .returned (.bool (lessB p q)) ∧ Ext none' w w') := by
  refine enter (n := 24) Try.func35 rfl rfl (Nat.le_of_ble_eq_true rfl) ?_
  intro a0 τ0 ha st0
  have e0 : get a0 0 = (.agg #[(.int .i64 (p.1)), (.int .i64 (p.2))]) := ha 0 _ rfl
  have e1 : get a0 1 = (.agg #[(.int .i64 (q.1)), (.int .i64 (q.2))]) := ha 1 _ rfl
  clear ha
  refine wp_seq ?_
  refine region_St (bf := [0, 0, 0]) (sp := [
      (box 29 (Nw w) 0 2 [(.int .i64 (p.1)), (.int .i64 (p.2))]),
        (box 29 (Nw w) 1 3 [(.int .i64 (q.1)), (.int .i64 (q.2))]),
        (det (Nw w) 4 (.bool (false)))])
    [] mixed st0 (by kernel_rfl) trivial
    ⟨Ob.box (v := (.agg #[(.int .i64 (p.1)), (.int .i64 (p.2))])) rfl rfl rfl rfl rfl (fun _ _ _ _ c => (c.eo e0 (by kernel_rfl))),
       Ob.box (v := (.agg #[(.int .i64 (q.1)), (.int .i64 (q.2))])) rfl rfl rfl rfl rfl (fun _ _ _ _ c => (c.eo e1 (by kernel_rfl))),
       Ob.det rfl rfl rfl (fun _ a_ _ _ c => r_assign rfl rfl),
     trivial⟩ ?_
  intro a1 w1 τ1 st1 f1
  obtain ⟨b1x2, e2⟩ : ∃ b, get a1 2 = b := ⟨_, rfl⟩
  obtain ⟨b1x3, e3⟩ : ∃ b, get a1 3 = b := ⟨_, rfl⟩
  replace e0 := f1.old e0 (by kernel_rfl)
  replace e1 := f1.old e1 (by kernel_rfl)
  have e4 : get a1 4 = (.bool (false)) := f1.v 2 rfl
  have r0 : boxR 29 [(.int .i64 (p.1)), (.int .i64 (p.2))] (τ1 0) b1x2 w1 := f1.rbox 0 rfl rfl e2
  have r1 : boxR 29 [(.int .i64 (q.1)), (.int .i64 (q.2))] (τ1 1) b1x3 w1 := f1.rbox 1 rfl rfl e3
  clear f1
  show Code.wp _ _ _ a1 w1
  refine wp_seq ?_
  refine region_St (bf := [0, 1, 0, 4, 15, 31, 63, 127, 63, 319, 1023, 2047, 4095, 8191, 4095, 20479, 65535, 131071, 262143, 524287]) (sp := [
      (det (Nw w) 5 (.pointer (some ((ptrOf b1x2).add 0)))),
        (det (Nw w) 6 (.int .i64 (p.1))),
        (det (Nw w) 7 (.pointer (some ((ptrOf b1x3).add 0)))),
        (det (Nw w) 8 (.int .i64 (q.1))),
        (det (Nw w) 9 (.bool (decide (p.1 < q.1)))),
        (det (Nw w) 10 (.bool (decide (p.1 < q.1)))),
        (gdet (Nw w) 11 ((decide (p.1 < q.1)) = false) (.pointer (some ((ptrOf b1x2).add 0)))),
        (gdet (Nw w) 12 ((decide (p.1 < q.1)) = false) (.int .i64 (p.1))),
        (gdet (Nw w) 13 ((decide (p.1 < q.1)) = false) (.pointer (some ((ptrOf b1x3).add 0)))),
        (gdet (Nw w) 14 ((decide (p.1 < q.1)) = false) (.int .i64 (q.1))),
        (gdet (Nw w) 15 ((decide (p.1 < q.1)) = false) (.bool (decide (p.1 = q.1)))),
        (gdet (Nw w) 16 ((decide (p.1 < q.1)) = false) (.bool (decide (p.1 = q.1)))),
        (gdet (Nw w) 17 (((decide (p.1 < q.1)) = false) ∧ (decide (p.1 = q.1)) = true) (.pointer (some ((ptrOf b1x2).add 1)))),
        (gdet (Nw w) 18 (((decide (p.1 < q.1)) = false) ∧ (decide (p.1 = q.1)) = true) (.int .i64 (p.2))),
        (gdet (Nw w) 19 (((decide (p.1 < q.1)) = false) ∧ (decide (p.1 = q.1)) = true) (.pointer (some ((ptrOf b1x3).add 1)))),
        (gdet (Nw w) 20 (((decide (p.1 < q.1)) = false) ∧ (decide (p.1 = q.1)) = true) (.int .i64 (q.2))),
        (gdet (Nw w) 21 (((decide (p.1 < q.1)) = false) ∧ (decide (p.1 = q.1)) = true) (.bool (decide (p.2 < q.2)))),
        (gdet (Nw w) 22 ((decide (p.1 < q.1)) = false) (.bool ((decide (p.1 = q.1)) && (decide (p.2 < q.2))))),
        (det (Nw w) 23 (.bool ((decide (p.1 < q.1)) || ((decide (p.1 = q.1)) && (decide (p.2 < q.2)))))),
        (det (Nw w) 4 (.bool ((decide (p.1 < q.1)) || ((decide (p.1 = q.1)) && (decide (p.2 < q.2))))))])
    [(ibox 29 (Nw w) b1x2 [(.int .i64 (p.1)), (.int .i64 (p.2))]), (ibox 29 (Nw w) b1x3 [(.int .i64 (q.1)), (.int .i64 (q.2))])] mixed st1 (by kernel_rfl) ⟨r0, r1, trivial⟩
    ⟨Ob.det rfl rfl rfl (fun _ a_ _ _ c => r_fieldAddr rfl Try.underlying29 rfl rfl Try.sizeOf3 ((c.eo e2 (by kernel_rfl)).trans r0.ptr)),
       Ob.det rfl rfl rfl (fun _ a_ _ _ c => r_load1 rfl Try.isAgg3 (c.ev 0 rfl rfl) ((c.ibox 0 rfl rfl (by kernel_rfl)).cell (j := 0) rfl)),
       Ob.det rfl rfl rfl (fun _ a_ _ _ c => r_fieldAddr rfl Try.underlying29 rfl rfl Try.sizeOf3 ((c.eo e3 (by kernel_rfl)).trans r1.ptr)),
       Ob.det rfl rfl rfl (fun _ a_ _ _ c => r_load1 rfl Try.isAgg3 (c.ev 2 rfl rfl) ((c.ibox 1 rfl rfl (by kernel_rfl)).cell (j := 0) rfl)),
       Ob.det rfl rfl rfl (fun _ a_ _ _ c => r_lss rfl (c.ev 1 rfl rfl) (c.ev 3 rfl rfl)),
       Ob.det rfl rfl rfl (fun _ a_ _ _ c => r_move rfl (c.ev 4 rfl rfl)),
       Ob.gdet rfl rfl rfl rfl (gi := 5) (tg := 10) rfl rfl Iff.rfl (fun _ a_ _ _ c hpc => r_fieldAddr rfl Try.underlying29 rfl rfl Try.sizeOf3 ((c.eo e2 (by kernel_rfl)).trans r0.ptr)),
       Ob.gdet rfl rfl rfl rfl (gi := 5) (tg := 10) rfl rfl Iff.rfl (fun _ a_ _ _ c hpc => r_load1 rfl Try.isAgg3 (c.eg 6 rfl rfl hpc) ((c.ibox 0 rfl rfl (by kernel_rfl)).cell (j := 0) rfl)),
       Ob.gdet rfl rfl rfl rfl (gi := 5) (tg := 10) rfl rfl Iff.rfl (fun _ a_ _ _ c hpc => r_fieldAddr rfl Try.underlying29 rfl rfl Try.sizeOf3 ((c.eo e3 (by kernel_rfl)).trans r1.ptr)),
       Ob.gdet rfl rfl rfl rfl (gi := 5) (tg := 10) rfl rfl Iff.rfl (fun _ a_ _ _ c hpc => r_load1 rfl Try.isAgg3 (c.eg 8 rfl rfl hpc) ((c.ibox 1 rfl rfl (by kernel_rfl)).cell (j := 0) rfl)),
       Ob.gdet rfl rfl rfl rfl (gi := 5) (tg := 10) rfl rfl Iff.rfl (fun _ a_ _ _ c hpc => r_eql rfl (c.eg 7 rfl rfl hpc) (c.eg 9 rfl rfl hpc)),
       Ob.gdet rfl rfl rfl rfl (gi := 5) (tg := 10) rfl rfl Iff.rfl (fun _ a_ _ _ c hpc => r_move rfl (c.eg 10 rfl rfl hpc)),
       Ob.ggdet rfl rfl rfl rfl (gi := 11) (tg := 16) rfl rfl Iff.rfl (fun _ a_ _ _ c hpc => r_fieldAddr rfl Try.underlying29 rfl rfl Try.sizeOf3 ((c.eo e2 (by kernel_rfl)).trans r0.ptr)),
       Ob.ggdet rfl rfl rfl rfl (gi := 11) (tg := 16) rfl rfl Iff.rfl (fun _ a_ _ _ c hpc => r_load1 rfl Try.isAgg3 (c.eg 12 rfl rfl hpc) ((c.ibox 0 rfl rfl (by kernel_rfl)).cell (j := 1) rfl)),
       Ob.ggdet rfl rfl rfl rfl (gi := 11) (tg := 16) rfl rfl Iff.rfl (fun _ a_ _ _ c hpc => r_fieldAddr rfl Try.underlying29 rfl rfl Try.sizeOf3 ((c.eo e3 (by kernel_rfl)).trans r1.ptr)),
       Ob.ggdet rfl rfl rfl rfl (gi := 11) (tg := 16) rfl rfl Iff.rfl (fun _ a_ _ _ c hpc => r_load1 rfl Try.isAgg3 (c.eg 14 rfl rfl hpc) ((c.ibox 1 rfl rfl (by kernel_rfl)).cell (j := 1) rfl)),
       Ob.ggdet rfl rfl rfl rfl (gi := 11) (tg := 16) rfl rfl Iff.rfl (fun _ a_ _ _ c hpc => r_lss rfl (c.eg 13 rfl rfl hpc) (c.eg 15 rfl rfl hpc)),
       Ob.gdet rfl rfl rfl rfl (gi := 5) (tg := 10) rfl rfl Iff.rfl (fun _ a_ _ _ c hpc => r_and rfl (c.eg 11 rfl rfl hpc) (fun h => (c.eg 16 rfl rfl ⟨hpc, h⟩))),
       Ob.det rfl rfl rfl (fun _ a_ _ _ c => r_or rfl (c.ev 5 rfl rfl) (fun h => (c.eg 17 rfl rfl h))),
       Ob.det rfl rfl rfl (fun _ a_ _ _ c => r_assign rfl (c.ev 18 rfl rfl)),
     trivial⟩ ?_
  intro a2 w2 τ2 st2 f2
  replace e0 := f2.old e0 (by kernel_rfl)
  replace e1 := f2.old e1 (by kernel_rfl)
  replace e2 := f2.old e2 (by kernel_rfl)
  replace e3 := f2.old e3 (by kernel_rfl)
  have e4 : get a2 4 = (.bool ((decide (p.1 < q.1)) || ((decide (p.1 = q.1)) && (decide (p.2 < q.2))))) := f2.v 19 rfl
  replace r0 : boxR 29 [(.int .i64 (p.1)), (.int .i64 (p.2))] (τ2 0) b1x2 w2 := f2.ibox 0 rfl rfl
  replace r1 : boxR 29 [(.int .i64 (q.1)), (.int .i64 (q.2))] (τ2 1) b1x3 w2 := f2.ibox 1 rfl rfl
  clear f2
  show Code.wp _ _ _ a2 w2
  refine wp_ret ?_
  repeat (first | with_reducible refine then_ret ?_ | with_reducible refine block_ret ?_)
  refine ret1 (fn := Try.f35) rfl st2.defers e4 ?_
  exact ⟨rfl, st2.ext0⟩

set_option maxRecDepth 100000 in
theorem refTouch_c (p q : Int × Int) (w : World) : Calls Try.prog 27 #[spanV p, spanV q] w (fun e w' => e = .returned (.bool (touchB p q)) ∧ Ext none' w w') := by
  refine enter (n := 16) Try.func27 rfl rfl (Nat.le_of_ble_eq_true rfl) ?_
  intro a0 τ0 ha st0
  have e0 : get a0 0 = (.agg #[(.int .i64 (p.1)), (.int .i64 (p.2))]) := ha 0 _ rfl
  have e1 : get a0 1 = (.agg #[(.int .i64 (q.1)), (.int .i64 (q.2))]) := ha 1 _ rfl
  clear ha
  refine wp_seq ?_
  refine region_St (bf := [0, 0, 0]) (sp := [
      (box 29 (Nw w) 0 2 [(.int .i64 (p.1)), (.int .i64 (p.2))]),
        (box 29 (Nw w) 1 3 [(.int .i64 (q.1)), (.int .i64 (q.2))]),
        (det (Nw w) 4 (.bool (false)))])
    [] mixed st0 (by kernel_rfl) trivial
    ⟨Ob.box (v := (.agg #[(.int .i64 (p.1)), (.int .i64 (p.2))])) rfl rfl rfl rfl rfl (fun _ _ _ _ c => (c.eo e0 (by kernel_rfl))),
       Ob.box (v := (.agg #[(.int .i64 (q.1)), (.int .i64 (q.2))])) rfl rfl rfl rfl rfl (fun _ _ _ _ c => (c.eo e1 (by kernel_rfl))),
       Ob.det rfl rfl rfl (fun _ a_ _ _ c => r_assign rfl rfl),
     trivial⟩ ?_
  intro a1 w1 τ1 st1 f1
  obtain ⟨b1x2, e2⟩ : ∃ b, get a1 2 = b := ⟨_, rfl⟩
  obtain ⟨b1x3, e3⟩ : ∃ b, get a1 3 = b := ⟨_, rfl⟩
  replace e0 := f1.old e0 (by kernel_rfl)
  replace e1 := f1.old e1 (by kernel_rfl)
  have e4 : get a1 4 = (.bool (false)) := f1.v 2 rfl
  have r0 : boxR 29 [(.int .i64 (p.1)), (.int .i64 (p.2))] (τ1 0) b1x2 w1 := f1.rbox 0 rfl rfl e2
  have r1 : boxR 29 [(.int .i64 (q.1)), (.int .i64 (q.2))] (τ1 1) b1x3 w1 := f1.rbox 1 rfl rfl e3
  clear f1
  show Code.wp _ _ _ a1 w1
  refine wp_seq ?_
  refine region_St (bf := [0, 1, 0, 4, 15, 0, 32, 0, 128, 480, 1023, 2047]) (sp := [
      (det (Nw w) 5 (.pointer (some ((ptrOf b1x2).add 0)))),
        (det (Nw w) 6 (.int .i64 (p.1))),
        (det (Nw w) 7 (.pointer (some ((ptrOf b1x3).add 0)))),
        (det (Nw w) 8 (.int .i64 (q.1))),
        (det (Nw w) 9 (.int .i64 (max p.1 q.1))),
        (det (Nw w) 10 (.pointer (some ((ptrOf b1x2).add 1)))),
        (det (Nw w) 11 (.int .i64 (p.2))),
        (det (Nw w) 12 (.pointer (some ((ptrOf b1x3).add 1)))),
        (det (Nw w) 13 (.int .i64 (q.2))),
        (det (Nw w) 14 (.int .i64 (min p.2 q.2))),
        (det (Nw w) 15 (.bool (decide (max p.1 q.1 ≤ min p.2 q.2)))),
        (det (Nw w) 4 (.bool (decide (max p.1 q.1 ≤ min p.2 q.2))))])
    [(ibox 29 (Nw w) b1x2 [(.int .i64 (p.1)), (.int .i64 (p.2))]), (ibox 29 (Nw w) b1x3 [(.int .i64 (q.1)), (.int .i64 (q.2))])] mixed st1 (by kernel_rfl) ⟨r0, r1, trivial⟩
    ⟨Ob.det rfl rfl rfl (fun _ a_ _ _ c => r_fieldAddr rfl Try.underlying29 rfl rfl Try.sizeOf3 ((c.eo e2 (by kernel_rfl)).trans r0.ptr)),
       Ob.det rfl rfl rfl (fun _ a_ _ _ c => r_load1 rfl Try.isAgg3 (c.ev 0 rfl rfl) ((c.ibox 0 rfl rfl (by kernel_rfl)).cell (j := 0) rfl)),
       Ob.det rfl rfl rfl (fun _ a_ _ _ c => r_fieldAddr rfl Try.underlying29 rfl rfl Try.sizeOf3 ((c.eo e3 (by kernel_rfl)).trans r1.ptr)),
       Ob.det rfl rfl rfl (fun _ a_ _ _ c => r_load1 rfl Try.isAgg3 (c.ev 2 rfl rfl) ((c.ibox 1 rfl rfl (by kernel_rfl)).cell (j := 0) rfl)),
       Ob.det rfl rfl rfl (fun _ a_ _ _ c => r_max rfl (c.ev 1 rfl rfl) (c.ev 3 rfl rfl)),
       Ob.det rfl rfl rfl (fun _ a_ _ _ c => r_fieldAddr rfl Try.underlying29 rfl rfl Try.sizeOf3 ((c.eo e2 (by kernel_rfl)).trans r0.ptr)),
       Ob.det rfl rfl rfl (fun _ a_ _ _ c => r_load1 rfl Try.isAgg3 (c.ev 5 rfl rfl) ((c.ibox 0 rfl rfl (by kernel_rfl)).cell (j := 1) rfl)),
       Ob.det rfl rfl rfl (fun _ a_ _ _ c => r_fieldAddr rfl Try.underlying29 rfl rfl Try.sizeOf3 ((c.eo e3 (by kernel_rfl)).trans r1.ptr)),
       Ob.det rfl rfl rfl (fun _ a_ _ _ c => r_load1 rfl Try.isAgg3 (c.ev 7 rfl rfl) ((c.ibox 1 rfl rfl (by kernel_rfl)).cell (j := 1) rfl)),
       Ob.det rfl rfl rfl (fun _ a_ _ _ c => r_min rfl (c.ev 6 rfl rfl) (c.ev 8 rfl rfl)),
       Ob.det rfl rfl rfl (fun _ a_ _ _ c => r_leq rfl (c.ev 4 rfl rfl) (c.ev 9 rfl rfl)),
       Ob.det rfl rfl rfl (fun _ a_ _ _ c => r_assign rfl (c.ev 10 rfl rfl)),
     trivial⟩ ?_
  intro a2 w2 τ2 st2 f2
  replace e0 := f2.old e0 (by kernel_rfl)
  replace e1 := f2.old e1 (by kernel_rfl)
  replace e2 := f2.old e2 (by kernel_rfl)
  replace e3 := f2.old e3 (by kernel_rfl)
  have e4 : get a2 4 = (.bool (decide (max p.1 q.1 ≤ min p.2 q.2))) := f2.v 11 rfl
  replace r0 : boxR 29 [(.int .i64 (p.1)), (.int .i64 (p.2))] (τ2 0) b1x2 w2 := f2.ibox 0 rfl rfl
  replace r1 : boxR 29 [(.int .i64 (q.1)), (.int .i64 (q.2))] (τ2 1) b1x3 w2 := f2.ibox 1 rfl rfl
  clear f2
  show Code.wp _ _ _ a2 w2
  refine wp_ret ?_
  repeat (first | with_reducible refine then_ret ?_ | with_reducible refine block_ret ?_)
  refine ret1 (fn := Try.f27) rfl st2.defers e4 ?_
  exact ⟨rfl, st2.ext0⟩

set_option maxRecDepth 100000 in
theorem touch_c (p q : Int × Int) (w : World) : Calls Try.prog 26 #[spanV p, spanV q] w (fun e w' => e = .returned (.bool (touchB p q)) ∧ Ext none' w w') := by
  refine enter (n := 16) Try.func26 rfl rfl (Nat.le_of_ble_eq_true rfl) ?_
  intro a0 τ0 ha st0
  have e0 : get a0 0 = (.agg #[(.int .i64 (p.1)), (.int .i64 (p.2))]) := ha 0 _ rfl
  have e1 : get a0 1 = (.agg #[(.int .i64 (q.1)), (.int .i64 (q.2))]) := ha 1 _ rfl
  clear ha
  refine wp_seq ?_
  refine region_St (bf := [0, 0, 0]) (sp := [
      (box 29 (Nw w) 0 2 [(.int .i64 (p.1)), (.int .i64 (p.2))]),
        (box 29 (Nw w) 1 3 [(.int .i64 (q.1)), (.int .i64 (q.2))]),
        (det (Nw w) 4 (.bool (false)))])
    [] mixed st0 (by kernel_rfl) trivial
    ⟨Ob.box (v := (.agg #[(.int .i64 (p.1)), (.int .i64 (p.2))])) rfl rfl rfl rfl rfl (fun _ _ _ _ c => (c.eo e0 (by kernel_rfl))),
       Ob.box (v := (.agg #[(.int .i64 (q.1)), (.int .i64 (q.2))])) rfl rfl rfl rfl rfl (fun _ _ _ _ c => (c.eo e1 (by kernel_rfl))),
       Ob.det rfl rfl rfl (fun _ a_ _ _ c => r_assign rfl rfl),
     trivial⟩ ?_
  intro a1 w1 τ1 st1 f1
  obtain ⟨b1x2, e2⟩ : ∃ b, get a1 2 = b := ⟨_, rfl⟩
  obtain ⟨b1x3, e3⟩ : ∃ b, get a1 3 = b := ⟨_, rfl⟩
  replace e0 := f1.old e0 (by kernel_rfl)
  replace e1 := f1.old e1 (by kernel_rfl)
  have e4 : get a1 4 = (.bool (false)) := f1.v 2 rfl
  have r0 : boxR 29 [(.int .i64 (p.1)), (.int .i64 (p.2))] (τ1 0) b1x2 w1 := f1.rbox 0 rfl rfl e2
  have r1 : boxR 29 [(.int .i64 (q.1)), (.int .i64 (q.2))] (τ1 1) b1x3 w1 := f1.rbox 1 rfl rfl e3
  clear f1
  show Code.wp _ _ _ a1 w1
  refine wp_seq ?_
  refine region_St (bf := [0, 1, 0, 4, 15, 0, 32, 0, 128, 480, 1023, 2047]) (sp := [
      (det (Nw w) 5 (.pointer (some ((ptrOf b1x2).add 0)))),
        (det (Nw w) 6 (.int .i64 (p.1))),
        (det (Nw w) 7 (.pointer (some ((ptrOf b1x3).add 0)))),
        (det (Nw w) 8 (.int .i64 (q.1))),
        (det (Nw w) 9 (.int .i64 (max p.1 q.1))),
        (det (Nw w) 10 (.pointer (some ((ptrOf b1x2).add 1)))),
        (det (Nw w) 11 (.int .i64 (p.2))),
        (det (Nw w) 12 (.pointer (some ((ptrOf b1x3).add 1)))),
        (det (Nw w) 13 (.int .i64 (q.2))),
        (det (Nw w) 14 (.int .i64 (min p.2 q.2))),
        (det (Nw w) 15 (.bool (decide (max p.1 q.1 ≤ min p.2 q.2)))),
        (det (Nw w) 4 (.bool (decide (max p.1 q.1 ≤ min p.2 q.2))))])
    [(ibox 29 (Nw w) b1x2 [(.int .i64 (p.1)), (.int .i64 (p.2))]), (ibox 29 (Nw w) b1x3 [(.int .i64 (q.1)), (.int .i64 (q.2))])] mixed st1 (by kernel_rfl) ⟨r0, r1, trivial⟩
    ⟨Ob.det rfl rfl rfl (fun _ a_ _ _ c => r_fieldAddr rfl Try.underlying29 rfl rfl Try.sizeOf3 ((c.eo e2 (by kernel_rfl)).trans r0.ptr)),
       Ob.det rfl rfl rfl (fun _ a_ _ _ c => r_load1 rfl Try.isAgg3 (c.ev 0 rfl rfl) ((c.ibox 0 rfl rfl (by kernel_rfl)).cell (j := 0) rfl)),
       Ob.det rfl rfl rfl (fun _ a_ _ _ c => r_fieldAddr rfl Try.underlying29 rfl rfl Try.sizeOf3 ((c.eo e3 (by kernel_rfl)).trans r1.ptr)),
       Ob.det rfl rfl rfl (fun _ a_ _ _ c => r_load1 rfl Try.isAgg3 (c.ev 2 rfl rfl) ((c.ibox 1 rfl rfl (by kernel_rfl)).cell (j := 0) rfl)),
       Ob.det rfl rfl rfl (fun _ a_ _ _ c => r_max rfl (c.ev 1 rfl rfl) (c.ev 3 rfl rfl)),
       Ob.det rfl rfl rfl (fun _ a_ _ _ c => r_fieldAddr rfl Try.underlying29 rfl rfl Try.sizeOf3 ((c.eo e2 (by kernel_rfl)).trans r0.ptr)),
       Ob.det rfl rfl rfl (fun _ a_ _ _ c => r_load1 rfl Try.isAgg3 (c.ev 5 rfl rfl) ((c.ibox 0 rfl rfl (by kernel_rfl)).cell (j := 1) rfl)),
       Ob.det rfl rfl rfl (fun _ a_ _ _ c => r_fieldAddr rfl Try.underlying29 rfl rfl Try.sizeOf3 ((c.eo e3 (by kernel_rfl)).trans r1.ptr)),
       Ob.det rfl rfl rfl (fun _ a_ _ _ c => r_load1 rfl Try.isAgg3 (c.ev 7 rfl rfl) ((c.ibox 1 rfl rfl (by kernel_rfl)).cell (j := 1) rfl)),
       Ob.det rfl rfl rfl (fun _ a_ _ _ c => r_min rfl (c.ev 6 rfl rfl) (c.ev 8 rfl rfl)),
       Ob.det rfl rfl rfl (fun _ a_ _ _ c => r_leq rfl (c.ev 4 rfl rfl) (c.ev 9 rfl rfl)),
       Ob.det rfl rfl rfl (fun _ a_ _ _ c => r_assign rfl (c.ev 10 rfl rfl)),
     trivial⟩ ?_
  intro a2 w2 τ2 st2 f2
  replace e0 := f2.old e0 (by kernel_rfl)
  replace e1 := f2.old e1 (by kernel_rfl)
  replace e2 := f2.old e2 (by kernel_rfl)
  replace e3 := f2.old e3 (by kernel_rfl)
  have e4 : get a2 4 = (.bool (decide (max p.1 q.1 ≤ min p.2 q.2))) := f2.v 11 rfl
  replace r0 : boxR 29 [(.int .i64 (p.1)), (.int .i64 (p.2))] (τ2 0) b1x2 w2 := f2.ibox 0 rfl rfl
  replace r1 : boxR 29 [(.int .i64 (q.1)), (.int .i64 (q.2))] (τ2 1) b1x3 w2 := f2.ibox 1 rfl rfl
  clear f2
  show Code.wp _ _ _ a2 w2
  refine wp_ret ?_
  repeat (first | with_reducible refine then_ret ?_ | with_reducible refine block_ret ?_)
  refine ret1 (fn := Try.f26) rfl st2.defers e4 ?_
  exact ⟨rfl, st2.ext0⟩

set_option maxRecDepth 100000 in
theorem overlap_c (p q : Int × Int) (w : World) : Calls Try.prog 24 #[spanV p, spanV q] w (fun e w' => e = .returned (.bool (overlapB p q)) ∧ Ext none' w w') := by
  refine enter (n := 16) Try.func24 rfl rfl (Nat.le_of_ble_eq_true rfl) ?_
  intro a0 τ0 ha st0
  have e0 : get a0 0 = (.agg #[(.int .i64 (p.1)), (.int .i64 (p.2))]) := ha 0 _ rfl
  have e1 : get a0 1 = (.agg #[(.int .i64 (q.1)), (.int .i64 (q.2))]) := ha 1 _ rfl
  clear ha
  refine wp_seq ?_
  refine region_St (bf := [0, 0, 0]) (sp := [
      (box 29 (Nw w) 0 2 [(.int .i64 (p.1)), (.int .i64 (p.2))]),
        (box 29 (Nw w) 1 3 [(.int .i64 (q.1)), (.int .i64 (q.2))]),
        (det (Nw w) 4 (.bool (false)))])
    [] mixed st0 (by kernel_rfl) trivial
    ⟨Ob.box (v := (.agg #[(.int .i64 (p.1)), (.int .i64 (p.2))])) rfl rfl rfl rfl rfl (fun _ _ _ _ c => (c.eo e0 (by kernel_rfl))),
       Ob.box (v := (.agg #[(.int .i64 (q.1)), (.int .i64 (q.2))])) rfl rfl rfl rfl rfl (fun _ _ _ _ c => (c.eo e1 (by kernel_rfl))),
       Ob.det rfl rfl rfl (fun _ a_ _ _ c => r_assign rfl rfl),
     trivial⟩ ?_
  intro a1 w1 τ1 st1 f1
  obtain ⟨b1x2, e2⟩ : ∃ b, get a1 2 = b := ⟨_, rfl⟩
  obtain ⟨b1x3, e3⟩ : ∃ b, get a1 3 = b := ⟨_, rfl⟩
  replace e0 := f1.old e0 (by kernel_rfl)
  replace e1 := f1.old e1 (by kernel_rfl)
  have e4 : get a1 4 = (.bool (false)) := f1.v 2 rfl
  have r0 : boxR 29 [(.int .i64 (p.1)), (.int .i64 (p.2))] (τ1 0) b1x2 w1 := f1.rbox 0 rfl rfl e2
  have r1 : boxR 29 [(.int .i64 (q.1)), (.int .i64 (q.2))] (τ1 1) b1x3 w1 := f1.rbox 1 rfl rfl e3
  clear f1
  show Code.wp _ _ _ a1 w1
  refine wp_seq ?_
  refine region_St (bf := [0, 1, 0, 4, 15, 0, 32, 0, 128, 480, 1023, 2047]) (sp := [
      (det (Nw w) 5 (.pointer (some ((ptrOf b1x2).add 0)))),
        (det (Nw w) 6 (.int .i64 (p.1))),
        (det (Nw w) 7 (.pointer (some ((ptrOf b1x3).add 0)))),
        (det (Nw w) 8 (.int .i64 (q.1))),
        (det (Nw w) 9 (.int .i64 (max p.1 q.1))),
        (det (Nw w) 10 (.pointer (some ((ptrOf b1x2).add 1)))),
        (det (Nw w) 11 (.int .i64 (p.2))),
        (det (Nw w) 12 (.pointer (some ((ptrOf b1x3).add 1)))),
        (det (Nw w) 13 (.int .i64 (q.2))),
        (det (Nw w) 14 (.int .i64 (min p.2 q.2))),
        (det (Nw w) 15 (.bool (decide (max p.1 q.1 < min p.2 q.2)))),
        (det (Nw w) 4 (.bool (decide (max p.1 q.1 < min p.2 q.2))))])
    [(ibox 29 (Nw w) b1x2 [(.int .i64 (p.1)), (.int .i64 (p.2))]), (ibox 29 (Nw w) b1x3 [(.int .i64 (q.1)), (.int .i64 (q.2))])] mixed st1 (by kernel_rfl) ⟨r0, r1, trivial⟩
    ⟨Ob.det rfl rfl rfl (fun _ a_ _ _ c => r_fieldAddr rfl Try.underlying29 rfl rfl Try.sizeOf3 ((c.eo e2 (by kernel_rfl)).trans r0.ptr)),
       Ob.det rfl rfl rfl (fun _ a_ _ _ c => r_load1 rfl Try.isAgg3 (c.ev 0 rfl rfl) ((c.ibox 0 rfl rfl (by kernel_rfl)).cell (j := 0) rfl)),
       Ob.det rfl rfl rfl (fun _ a_ _ _ c => r_fieldAddr rfl Try.underlying29 rfl rfl Try.sizeOf3 ((c.eo e3 (by kernel_rfl)).trans r1.ptr)),
       Ob.det rfl rfl rfl (fun _ a_ _ _ c => r_load1 rfl Try.isAgg3 (c.ev 2 rfl rfl) ((c.ibox 1 rfl rfl (by kernel_rfl)).cell (j := 0) rfl)),
       Ob.det rfl rfl rfl (fun _ a_ _ _ c => r_max rfl (c.ev 1 rfl rfl) (c.ev 3 rfl rfl)),
       Ob.det rfl rfl rfl (fun _ a_ _ _ c => r_fieldAddr rfl Try.underlying29 rfl rfl Try.sizeOf3 ((c.eo e2 (by kernel_rfl)).trans r0.ptr)),
       Ob.det rfl rfl rfl (fun _ a_ _ _ c => r_load1 rfl Try.isAgg3 (c.ev 5 rfl rfl) ((c.ibox 0 rfl rfl (by kernel_rfl)).cell (j := 1) rfl)),
       Ob.det rfl rfl rfl (fun _ a_ _ _ c => r_fieldAddr rfl Try.underlying29 rfl rfl Try.sizeOf3 ((c.eo e3 (by kernel_rfl)).trans r1.ptr)),
       Ob.det rfl rfl rfl (fun _ a_ _ _ c => r_load1 rfl Try.isAgg3 (c.ev 7 rfl rfl) ((c.ibox 1 rfl rfl (by kernel_rfl)).cell (j := 1) rfl)),
       Ob.det rfl rfl rfl (fun _ a_ _ _ c => r_min rfl (c.ev 6 rfl rfl) (c.ev 8 rfl rfl)),
       Ob.det rfl rfl rfl (fun _ a_ _ _ c => r_lss rfl (c.ev 4 rfl rfl) (c.ev 9 rfl rfl)),
       Ob.det rfl rfl rfl (fun _ a_ _ _ c => r_assign rfl (c.ev 10 rfl rfl)),
     trivial⟩ ?_
  intro a2 w2 τ2 st2 f2
  replace e0 := f2.old e0 (by kernel_rfl)
  replace e1 := f2.old e1 (by kernel_rfl)
  replace e2 := f2.old e2 (by kernel_rfl)
  replace e3 := f2.old e3 (by kernel_rfl)
  have e4 : get a2 4 = (.bool (decide (max p.1 q.1 < min p.2 q.2))) := f2.v 11 rfl
  replace r0 : boxR 29 [(.int .i64 (p.1)), (.int .i64 (p.2))] (τ2 0) b1x2 w2 := f2.ibox 0 rfl rfl
  replace r1 : boxR 29 [(.int .i64 (q.1)), (.int .i64 (q.2))] (τ2 1) b1x3 w2 := f2.ibox 1 rfl rfl
  clear f2
  show Code.wp _ _ _ a2 w2
  refine wp_ret ?_
  repeat (first | with_reducible refine then_ret ?_ | with_reducible refine block_ret ?_)
  refine ret1 (fn := Try.f24) rfl st2.defers e4 ?_
  exact ⟨rfl, st2.ext0⟩

set_option maxRecDepth 100000 in
theorem refOverlap_c (p q : Int × Int) (w : World) : Calls Try.prog 25 #[spanV p, spanV q] w (fun e w' => e = .returned (.bool (overlapB p q)) ∧ Ext none' w w') := by
  refine enter (n := 16) Try.func25 rfl rfl (Nat.le_of_ble_eq_true rfl) ?_
  intro a0 τ0 ha st0
  have e0 : get a0 0 = (.agg #[(.int .i64 (p.1)), (.int .i64 (p.2))]) := ha 0 _ rfl
  have e1 : get a0 1 = (.agg #[(.int .i64 (q.1)), (.int .i64 (q.2))]) := ha 1 _ rfl
  clear ha
  refine wp_seq ?_
  refine region_St (bf := [0, 0, 0]) (sp := [
      (box 29 (Nw w) 0 2 [(.int .i64 (p.1)), (.int .i64 (p.2))]),
        (box 29 (Nw w) 1 3 [(.int .i64 (q.1)), (.int .i64 (q.2))]),
        (det (Nw w) 4 (.bool (false)))])
    [] mixed st0 (by kernel_rfl) trivial
    ⟨Ob.box (v := (.agg #[(.int .i64 (p.1)), (.int .i64 (p.2))])) rfl rfl rfl rfl rfl (fun _ _ _ _ c => (c.eo e0 (by kernel_rfl))),
       Ob.box (v := (.agg #[(.int .i64 (q.1)), (.int .i64 (q.2))])) rfl rfl rfl rfl rfl (fun _ _ _ _ c => (c.eo e1 (by kernel_rfl))),
       Ob.det rfl rfl rfl (fun _ a_ _ _ c => r_assign rfl rfl),
     trivial⟩ ?_
  intro a1 w1 τ1 st1 f1
  obtain ⟨b1x2, e2⟩ : ∃ b, get a1 2 = b := ⟨_, rfl⟩
  obtain ⟨b1x3, e3⟩ : ∃ b, get a1 3 = b := ⟨_, rfl⟩
  replace e0 := f1.old e0 (by kernel_rfl)
  replace e1 := f1.old e1 (by kernel_rfl)
  have e4 : get a1 4 = (.bool (false)) := f1.v 2 rfl
  have r0 : boxR 29 [(.int .i64 (p.1)), (.int .i64 (p.2))] (τ1 0) b1x2 w1 := f1.rbox 0 rfl rfl e2
  have r1 : boxR 29 [(.int .i64 (q.1)), (.int .i64 (q.2))] (τ1 1) b1x3 w1 := f1.rbox 1 rfl rfl e3
  clear f1
  show Code.wp _ _ _ a1 w1
  refine wp_seq ?_
  refine region_St (bf := [0, 1, 0, 4, 15, 0, 32, 0, 128, 480, 1023, 2047]) (sp := [
      (det (Nw w) 5 (.pointer (some ((ptrOf b1x2).add 0)))),
        (det (Nw w) 6 (.int .i64 (p.1))),
        (det (Nw w) 7 (.pointer (some ((ptrOf b1x3).add 0)))),
        (det (Nw w) 8 (.int .i64 (q.1))),
        (det (Nw w) 9 (.int .i64 (max p.1 q.1))),
        (det (Nw w) 10 (.pointer (some ((ptrOf b1x2).add 1)))),
        (det (Nw w) 11 (.int .i64 (p.2))),
        (det (Nw w) 12 (.pointer (some ((ptrOf b1x3).add 1)))),
        (det (Nw w) 13 (.int .i64 (q.2))),
        (det (Nw w) 14 (.int .i64 (min p.2 q.2))),
        (det (Nw w) 15 (.bool (decide (max p.1 q.1 < min p.2 q.2)))),
        (det (Nw w) 4 (.bool (decide (max p.1 q.1 < min p.2 q.2))))])
    [(ibox 29 (Nw w) b1x2 [(.int .i64 (p.1)), (.int .i64 (p.2))]), (ibox 29 (Nw w) b1x3 [(.int .i64 (q.1)), (.int .i64 (q.2))])] mixed st1 (by kernel_rfl) ⟨r0, r1, trivial⟩
    ⟨Ob.det rfl rfl rfl (fun _ a_ _ _ c => r_fieldAddr rfl Try.underlying29 rfl rfl Try.sizeOf3 ((c.eo e2 (by kernel_rfl)).trans r0.ptr)),
       Ob.det rfl rfl rfl (fun _ a_ _ _ c => r_load1 rfl Try.isAgg3 (c.ev 0 rfl rfl) ((c.ibox 0 rfl rfl (by kernel_rfl)).cell (j := 0) rfl)),
       Ob.det rfl rfl rfl (fun _ a_ _ _ c => r_fieldAddr rfl Try.underlying29 rfl rfl Try.sizeOf3 ((c.eo e3 (by kernel_rfl)).trans r1.ptr)),
       Ob.det rfl rfl rfl (fun _ a_ _ _ c => r_load1 rfl Try.isAgg3 (c.ev 2 rfl rfl) ((c.ibox 1 rfl rfl (by kernel_rfl)).cell (j := 0) rfl)),
       Ob.det rfl rfl rfl (fun _ a_ _ _ c => r_max rfl (c.ev 1 rfl rfl) (c.ev 3 rfl rfl)),
       Ob.det rfl rfl rfl (fun _ a_ _ _ c => r_fieldAddr rfl Try.underlying29 rfl rfl Try.sizeOf3 ((c.eo e2 (by kernel_rfl)).trans r0.ptr)),
       Ob.det rfl rfl rfl (fun _ a_ _ _ c => r_load1 rfl Try.isAgg3 (c.ev 5 rfl rfl) ((c.ibox 0 rfl rfl (by kernel_rfl)).cell (j := 1) rfl)),
       Ob.det rfl rfl rfl (fun _ a_ _ _ c => r_fieldAddr rfl Try.underlying29 rfl rfl Try.sizeOf3 ((c.eo e3 (by kernel_rfl)).trans r1.ptr)),
       Ob.det rfl rfl rfl (fun _ a_ _ _ c => r_load1 rfl Try.isAgg3 (c.ev 7 rfl rfl) ((c.ibox 1 rfl rfl (by kernel_rfl)).cell (j := 1) rfl)),
       Ob.det rfl rfl rfl (fun _ a_ _ _ c => r_min rfl (c.ev 6 rfl rfl) (c.ev 8 rfl rfl)),
       Ob.det rfl rfl rfl (fun _ a_ _ _ c => r_lss rfl (c.ev 4 rfl rfl) (c.ev 9 rfl rfl)),
       Ob.det rfl rfl rfl (fun _ a_ _ _ c => r_assign rfl (c.ev 10 rfl rfl)),
     trivial⟩ ?_
  intro a2 w2 τ2 st2 f2
  replace e0 := f2.old e0 (by kernel_rfl)
  replace e1 := f2.old e1 (by kernel_rfl)
  replace e2 := f2.old e2 (by kernel_rfl)
  replace e3 := f2.old e3 (by kernel_rfl)
  have e4 : get a2 4 = (.bool (decide (max p.1 q.1 < min p.2 q.2))) := f2.v 11 rfl
  replace r0 : boxR 29 [(.int .i64 (p.1)), (.int .i64 (p.2))] (τ2 0) b1x2 w2 := f2.ibox 0 rfl rfl
  replace r1 : boxR 29 [(.int .i64 (q.1)), (.int .i64 (q.2))] (τ2 1) b1x3 w2 := f2.ibox 1 rfl rfl
  clear f2
  show Code.wp _ _ _ a2 w2
  refine wp_ret ?_
  repeat (first | with_reducible refine then_ret ?_ | with_reducible refine block_ret ?_)
  refine ret1 (fn := Try.f25) rfl st2.defers e4 ?_
  exact ⟨rfl, st2.ext0⟩

set_option maxRecDepth 100000 in
theorem within_c (p q : Int × Int) (w : World) : Calls Try.prog 22 #[spanV p, spanV q] w (fun e w' => e = .returned (.bool (withinB p q)) ∧ Ext none' w w') := by
  refine enter (n := 17) Try.func22 rfl rfl (Nat.le_of_ble_eq_true rfl) ?_
  intro a0 τ0 ha st0
  have e0 : get a0 0 = (.agg #[(.int .i64 (p.1)), (.int .i64 (p.2))]) := ha 0 _ rfl
  have e1 : get a0 1 = (.agg #[(.int .i64 (q.1)), (.int .i64 (q.2))]) := ha 1 _ rfl
  clear ha
  refine wp_seq ?_
  refine region_St (bf := [0, 0, 0]) (sp := [
      (box 29 (Nw w) 0 2 [(.int .i64 (p.1)), (.int .i64 (p.2))]),
        (box 29 (Nw w) 1 3 [(.int .i64 (q.1)), (.int .i64 (q.2))]),
        (det (Nw w) 4 (.bool (false)))])
    [] mixed st0 (by kernel_rfl) trivial
    ⟨Ob.box (v := (.agg #[(.int .i64 (p.1)), (.int .i64 (p.2))])) rfl rfl rfl rfl rfl (fun _ _ _ _ c => (c.eo e0 (by kernel_rfl))),
       Ob.box (v := (.agg #[(.int .i64 (q.1)), (.int .i64 (q.2))])) rfl rfl rfl rfl rfl (fun _ _ _ _ c => (c.eo e1 (by kernel_rfl))),
       Ob.det rfl rfl rfl (fun _ a_ _ _ c => r_assign rfl rfl),
     trivial⟩ ?_
  intro a1 w1 τ1 st1 f1
  obtain ⟨b1x2, e2⟩ : ∃ b, get a1 2 = b := ⟨_, rfl⟩
  obtain ⟨b1x3, e3⟩ : ∃ b, get a1 3 = b := ⟨_, rfl⟩
  replace e0 := f1.old e0 (by kernel_rfl)
  replace e1 := f1.old e1 (by kernel_rfl)
  have e4 : get a1 4 = (.bool (false)) := f1.v 2 rfl
  have r0 : boxR 29 [(.int .i64 (p.1)), (.int .i64 (p.2))] (τ1 0) b1x2 w1 := f1.rbox 0 rfl rfl e2
  have r1 : boxR 29 [(.int .i64 (q.1)), (.int .i64 (q.2))] (τ1 1) b1x3 w1 := f1.rbox 1 rfl rfl e3
  clear f1
  show Code.wp _ _ _ a1 w1
  refine wp_seq ?_
  refine region_St (bf := [0, 1, 0, 4, 15, 31, 63, 127, 63, 319, 1023, 2047, 4095]) (sp := [
      (det (Nw w) 5 (.pointer (some ((ptrOf b1x2).add 0)))),
        (det (Nw w) 6 (.int .i64 (p.1))),
        (det (Nw w) 7 (.pointer (some ((ptrOf b1x3).add 0)))),
        (det (Nw w) 8 (.int .i64 (q.1))),
        (det (Nw w) 9 (.bool (decide (q.1 ≤ p.1)))),
        (det (Nw w) 10 (.bool (decide (q.1 ≤ p.1)))),
        (gdet (Nw w) 11 ((decide (q.1 ≤ p.1)) = true) (.pointer (some ((ptrOf b1x2).add 1)))),
        (gdet (Nw w) 12 ((decide (q.1 ≤ p.1)) = true) (.int .i64 (p.2))),
        (gdet (Nw w) 13 ((decide (q.1 ≤ p.1)) = true) (.pointer (some ((ptrOf b1x3).add 1)))),
        (gdet (Nw w) 14 ((decide (q.1 ≤ p.1)) = true) (.int .i64 (q.2))),
        (gdet (Nw w) 15 ((decide (q.1 ≤ p.1)) = true) (.bool (decide (p.2 ≤ q.2)))),
        (det (Nw w) 16 (.bool ((decide (q.1 ≤ p.1)) && (decide (p.2 ≤ q.2))))),
        (det (Nw w) 4 (.bool ((decide (q.1 ≤ p.1)) && (decide (p.2 ≤ q.2)))))])
    [(ibox 29 (Nw w) b1x2 [(.int .i64 (p.1)), (.int .i64 (p.2))]), (ibox 29 (Nw w) b1x3 [(.int .i64 (q.1)), (.int .i64 (q.2))])] mixed st1 (by kernel_rfl) ⟨r0, r1, trivial⟩
    ⟨Ob.det rfl rfl rfl (fun _ a_ _ _ c => r_fieldAddr rfl Try.underlying29 rfl rfl Try.sizeOf3 ((c.eo e2 (by kernel_rfl)).trans r0.ptr)),
       Ob.det rfl rfl rfl (fun _ a_ _ _ c => r_load1 rfl Try.isAgg3 (c.ev 0 rfl rfl) ((c.ibox 0 rfl rfl (by kernel_rfl)).cell (j := 0) rfl)),
       Ob.det rfl rfl rfl (fun _ a_ _ _ c => r_fieldAddr rfl Try.underlying29 rfl rfl Try.sizeOf3 ((c.eo e3 (by kernel_rfl)).trans r1.ptr)),
       Ob.det rfl rfl rfl (fun _ a_ _ _ c => r_load1 rfl Try.isAgg3 (c.ev 2 rfl rfl) ((c.ibox 1 rfl rfl (by kernel_rfl)).cell (j := 0) rfl)),
       Ob.det rfl rfl rfl (fun _ a_ _ _ c => r_geq rfl (c.ev 1 rfl rfl) (c.ev 3 rfl rfl)),
       Ob.det rfl rfl rfl (fun _ a_ _ _ c => r_move rfl (c.ev 4 rfl rfl)),
       Ob.gdet rfl rfl rfl rfl (gi := 5) (tg := 10) rfl rfl Iff.rfl (fun _ a_ _ _ c hpc => r_fieldAddr rfl Try.underlying29 rfl rfl Try.sizeOf3 ((c.eo e2 (by kernel_rfl)).trans r0.ptr)),
       Ob.gdet rfl rfl rfl rfl (gi := 5) (tg := 10) rfl rfl Iff.rfl (fun _ a_ _ _ c hpc => r_load1 rfl Try.isAgg3 (c.eg 6 rfl rfl hpc) ((c.ibox 0 rfl rfl (by kernel_rfl)).cell (j := 1) rfl)),
       Ob.gdet rfl rfl rfl rfl (gi := 5) (tg := 10) rfl rfl Iff.rfl (fun _ a_ _ _ c hpc => r_fieldAddr rfl Try.underlying29 rfl rfl Try.sizeOf3 ((c.eo e3 (by kernel_rfl)).trans r1.ptr)),
       Ob.gdet rfl rfl rfl rfl (gi := 5) (tg := 10) rfl rfl Iff.rfl (fun _ a_ _ _ c hpc => r_load1 rfl Try.isAgg3 (c.eg 8 rfl rfl hpc) ((c.ibox 1 rfl rfl (by kernel_rfl)).cell (j := 1) rfl)),
       Ob.gdet rfl rfl rfl rfl (gi := 5) (tg := 10) rfl rfl Iff.rfl (fun _ a_ _ _ c hpc => r_leq rfl (c.eg 7 rfl rfl hpc) (c.eg 9 rfl rfl hpc)),
       Ob.det rfl rfl rfl (fun _ a_ _ _ c => r_and rfl (c.ev 5 rfl rfl) (fun h => (c.eg 10 rfl rfl h))),
       Ob.det rfl rfl rfl (fun _ a_ _ _ c => r_assign rfl (c.ev 11 rfl rfl)),
     trivial⟩ ?_
  intro a2 w2 τ2 st2 f2
  replace e0 := f2.old e0 (by kernel_rfl)
  replace e1 := f2.old e1 (by kernel_rfl)
  replace e2 := f2.old e2 (by kernel_rfl)
  replace e3 := f2.old e3 (by kernel_rfl)
  have e4 : get a2 4 = (.bool ((decide (q.1 ≤ p.1)) && (decide (p.2 ≤ q.2)))) := f2.v 12 rfl
  replace r0 : boxR 29 [(.int .i64 (p.1)), (.int .i64 (p.2))] (τ2 0) b1x2 w2 := f2.ibox 0 rfl rfl
  replace r1 : boxR 29 [(.int .i64 (q.1)), (.int .i64 (q.2))] (τ2 1) b1x3 w2 := f2.ibox 1 rfl rfl
  clear f2
  show Code.wp _ _ _ a2 w2
  refine wp_ret ?_
  repeat (first | with_reducible refine then_ret ?_ | with_reducible refine block_ret ?_)
  refine ret1 (fn := Try.f22) rfl st2.defers e4 ?_
  exact ⟨rfl, st2.ext0⟩

set_option maxRecDepth 100000 in
theorem refWithin_c (p q : Int × Int) (w : World) : Calls Try.prog 23 #[spanV p, spanV q] w (fun e w' => e = .returned (.bool (withinB p q)) ∧ Ext none' w w') := by
  refine enter (n := 17) Try.func23 rfl rfl (Nat.le_of_ble_eq_true rfl) ?_
  intro a0 τ0 ha st0
  have e0 : get a0 0 = (.agg #[(.int .i64 (p.1)), (.int .i64 (p.2))]) := ha 0 _ rfl
  have e1 : get a0 1 = (.agg #[(.int .i64 (q.1)), (.int .i64 (q.2))]) := ha 1 _ rfl
  clear ha
  refine wp_seq ?_
  refine region_St (bf := [0, 0, 0]) (sp := [
      (box 29 (Nw w) 0 2 [(.int .i64 (p.1)), (.int .i64 (p.2))]),
        (box 29 (Nw w) 1 3 [(.int .i64 (q.1)), (.int .i64 (q.2))]),
        (det (Nw w) 4 (.bool (false)))])
    [] mixed st0 (by kernel_rfl) trivial
    ⟨Ob.box (v := (.agg #[(.int .i64 (p.1)), (.int .i64 (p.2))])) rfl rfl rfl rfl rfl (fun _ _ _ _ c => (c.eo e0 (by kernel_rfl))),
       Ob.box (v := (.agg #[(.int .i64 (q.1)), (.int .i64 (q.2))])) rfl rfl rfl rfl rfl (fun _ _ _ _ c => (c.eo e1 (by kernel_rfl))),
       Ob.det rfl rfl rfl (fun _ a_ _ _ c => r_assign rfl rfl),
     trivial⟩ ?_
  intro a1 w1 τ1 st1 f1
  obtain ⟨b1x2, e2⟩ : ∃ b, get a1 2 = b := ⟨_, rfl⟩
  obtain ⟨b1x3, e3⟩ : ∃ b, get a1 3 = b := ⟨_, rfl⟩
  replace e0 := f1.old e0 (by kernel_rfl)
  replace e1 := f1.old e1 (by kernel_rfl)
  have e4 : get a1 4 = (.bool (false)) := f1.v 2 rfl
  have r0 : boxR 29 [(.int .i64 (p.1)), (.int .i64 (p.2))] (τ1 0) b1x2 w1 := f1.rbox 0 rfl rfl e2
  have r1 : boxR 29 [(.int .i64 (q.1)), (.int .i64 (q.2))] (τ1 1) b1x3 w1 := f1.rbox 1 rfl rfl e3
  clear f1
  show Code.wp _ _ _ a1 w1
  refine wp_seq ?_
  refine region_St (bf := [0, 1, 0, 4, 15, 31, 63, 127, 63, 319, 1023, 2047, 4095]) (sp := [
      (det (Nw w) 5 (.pointer (some ((ptrOf b1x2).add 0)))),
        (det (Nw w) 6 (.int .i64 (p.1))),
        (det (Nw w) 7 (.pointer (some ((ptrOf b1x3).add 0)))),
        (det (Nw w) 8 (.int .i64 (q.1))),
        (det (Nw w) 9 (.bool (decide (q.1 ≤ p.1)))),
        (det (Nw w) 10 (.bool (decide (q.1 ≤ p.1)))),
        (gdet (Nw w) 11 ((decide (q.1 ≤ p.1)) = true) (.pointer (some ((ptrOf b1x2).add 1)))),
        (gdet (Nw w) 12 ((decide (q.1 ≤ p.1)) = true) (.int .i64 (p.2))),
        (gdet (Nw w) 13 ((decide (q.1 ≤ p.1)) = true) (.pointer (some ((ptrOf b1x3).add 1)))),
        (gdet (Nw w) 14 ((decide (q.1 ≤ p.1)) = true) (.int .i64 (q.2))),
        (gdet (Nw w) 15 ((decide (q.1 ≤ p.1)) = true) (.bool (decide (p.2 ≤ q.2)))),
        (det (Nw w) 16 (.bool ((decide (q.1 ≤ p.1)) && (decide (p.2 ≤ q.2))))),
        (det (Nw w) 4 (.bool ((decide (q.1 ≤ p.1)) && (decide (p.2 ≤ q.2)))))])
    [(ibox 29 (Nw w) b1x2 [(.int .i64 (p.1)), (.int .i64 (p.2))]), (ibox 29 (Nw w) b1x3 [(.int .i64 (q.1)), (.int .i64 (q.2))])] mixed st1 (by kernel_rfl) ⟨r0, r1, trivial⟩
    ⟨Ob.det rfl rfl rfl (fun _ a_ _ _ c => r_fieldAddr rfl Try.underlying29 rfl rfl Try.sizeOf3 ((c.eo e2 (by kernel_rfl)).trans r0.ptr)),
       Ob.det rfl rfl rfl (fun _ a_ _ _ c => r_load1 rfl Try.isAgg3 (c.ev 0 rfl rfl) ((c.ibox 0 rfl rfl (by kernel_rfl)).cell (j := 0) rfl)),
       Ob.det rfl rfl rfl (fun _ a_ _ _ c => r_fieldAddr rfl Try.underlying29 rfl rfl Try.sizeOf3 ((c.eo e3 (by kernel_rfl)).trans r1.ptr)),
       Ob.det rfl rfl rfl (fun _ a_ _ _ c => r_load1 rfl Try.isAgg3 (c.ev 2 rfl rfl) ((c.ibox 1 rfl rfl (by kernel_rfl)).cell (j := 0) rfl)),
       Ob.det rfl rfl rfl (fun _ a_ _ _ c => r_geq rfl (c.ev 1 rfl rfl) (c.ev 3 rfl rfl)),
       Ob.det rfl rfl rfl (fun _ a_ _ _ c => r_move rfl (c.ev 4 rfl rfl)),
       Ob.gdet rfl rfl rfl rfl (gi := 5) (tg := 10) rfl rfl Iff.rfl (fun _ a_ _ _ c hpc => r_fieldAddr rfl Try.underlying29 rfl rfl Try.sizeOf3 ((c.eo e2 (by kernel_rfl)).trans r0.ptr)),
       Ob.gdet rfl rfl rfl rfl (gi := 5) (tg := 10) rfl rfl Iff.rfl (fun _ a_ _ _ c hpc => r_load1 rfl Try.isAgg3 (c.eg 6 rfl rfl hpc) ((c.ibox 0 rfl rfl (by kernel_rfl)).cell (j := 1) rfl)),
       Ob.gdet rfl rfl rfl rfl (gi := 5) (tg := 10) rfl rfl Iff.rfl (fun _ a_ _ _ c hpc => r_fieldAddr rfl Try.underlying29 rfl rfl Try.sizeOf3 ((c.eo e3 (by kernel_rfl)).trans r1.ptr)),
       Ob.gdet rfl rfl rfl rfl (gi := 5) (tg := 10) rfl rfl Iff.rfl (fun _ a_ _ _ c hpc => r_load1 rfl Try.isAgg3 (c.eg 8 rfl rfl hpc) ((c.ibox 1 rfl rfl (by kernel_rfl)).cell (j := 1) rfl)),
       Ob.gdet rfl rfl rfl rfl (gi := 5) (tg := 10) rfl rfl Iff.rfl (fun _ a_ _ _ c hpc => r_leq rfl (c.eg 7 rfl rfl hpc) (c.eg 9 rfl rfl hpc)),
       Ob.det rfl rfl rfl (fun _ a_ _ _ c => r_and rfl (c.ev 5 rfl rfl) (fun h => (c.eg 10 rfl rfl h))),
       Ob.det rfl rfl rfl (fun _ a_ _ _ c => r_assign rfl (c.ev 11 rfl rfl)),
     trivial⟩ ?_
  intro a2 w2 τ2 st2 f2
  replace e0 := f2.old e0 (by kernel_rfl)
  replace e1 := f2.old e1 (by kernel_rfl)
  replace e2 := f2.old e2 (by kernel_rfl)
  replace e3 := f2.old e3 (by kernel_rfl)
  have e4 : get a2 4 = (.bool ((decide (q.1 ≤ p.1)) && (decide (p.2 ≤ q.2)))) := f2.v 12 rfl
  replace r0 : boxR 29 [(.int .i64 (p.1)), (.int .i64 (p.2))] (τ2 0) b1x2 w2 := f2.ibox 0 rfl rfl
  replace r1 : boxR 29 [(.int .i64 (q.1)), (.int .i64 (q.2))] (τ2 1) b1x3 w2 := f2.ibox 1 rfl rfl
  clear f2
  show Code.wp _ _ _ a2 w2
  refine wp_ret ?_
  repeat (first | with_reducible refine then_ret ?_ | with_reducible refine block_ret ?_)
  refine ret1 (fn := Try.f23) rfl st2.defers e4 ?_
  exact ⟨rfl, st2.ext0⟩

set_option maxRecDepth 100000 in
theorem has_c (p : Int × Int) (n : Int) (w : World) : Calls Try.prog 15 #[spanV p, .int .i64 n] w (fun e w' => e = .returned (.bool (hasB p n)) ∧ Ext none' w w') := by
  refine enter (n := 15) Try.func15 rfl rfl (Nat.le_of_ble_eq_true rfl) ?_
  intro a0 τ0 ha st0
  have e0 : get a0 0 = (.agg #[(.int .i64 (p.1)), (.int .i64 (p.2))]) := ha 0 _ rfl
  have e1 : get a0 1 = (.int .i64 (n)) := ha 1 _ rfl
  clear ha
  refine wp_seq ?_
  refine region_St (bf := [0, 0]) (sp := [
      (box 29 (Nw w) 0 2 [(.int .i64 (p.1)), (.int .i64 (p.2))]),
        (det (Nw w) 4 (.bool (false)))])
    [] mixed st0 (by kernel_rfl) trivial
    ⟨Ob.box (v := (.agg #[(.int .i64 (p.1)), (.int .i64 (p.2))])) rfl rfl rfl rfl rfl (fun _ _ _ _ c => (c.eo e0 (by kernel_rfl))),
       Ob.det rfl rfl rfl (fun _ a_ _ _ c => r_assign rfl rfl),
     trivial⟩ ?_
  intro a1 w1 τ1 st1 f1
  obtain ⟨b1x2, e2⟩ : ∃ b, get a1 2 = b := ⟨_, rfl⟩
  replace e0 := f1.old e0 (by kernel_rfl)
  replace e1 := f1.old e1 (by kernel_rfl)
  have e4 : get a1 4 = (.bool (false)) := f1.v 1 rfl
  have r0 : boxR 29 [(.int .i64 (p.1)), (.int .i64 (p.2))] (τ1 0) b1x2 w1 := f1.rbox 0 rfl rfl e2
  clear f1
  show Code.wp _ _ _ a1 w1
  refine wp_seq ?_
  refine region_St (bf := [0, 1, 0, 7, 15, 31, 31, 95, 255, 511, 1023]) (sp := [
      (det (Nw w) 5 (.pointer (some ((ptrOf b1x2).add 0)))),
        (det (Nw w) 6 (.int .i64 (p.1))),
        (det (Nw w) 7 (.int .i64 (n))),
        (det (Nw w) 8 (.bool (decide (p.1 ≤ n)))),
        (det (Nw w) 9 (.bool (decide (p.1 ≤ n)))),
        (gdet (Nw w) 10 ((decide (p.1 ≤ n)) = true) (.int .i64 (n))),
        (gdet (Nw w) 11 ((decide (p.1 ≤ n)) = true) (.pointer (some ((ptrOf b1x2).add 1)))),
        (gdet (Nw w) 12 ((decide (p.1 ≤ n)) = true) (.int .i64 (p.2))),
        (gdet (Nw w) 13 ((decide (p.1 ≤ n)) = true) (.bool (decide (n ≤ p.2)))),
        (det (Nw w) 14 (.bool ((decide (p.1 ≤ n)) && (decide (n ≤ p.2))))),
        (det (Nw w) 4 (.bool ((decide (p.1 ≤ n)) && (decide (n ≤ p.2)))))])
    [(ibox 29 (Nw w) b1x2 [(.int .i64 (p.1)), (.int .i64 (p.2))])] mixed st1 (by kernel_rfl) ⟨r0, trivial⟩
    ⟨Ob.det rfl rfl rfl (fun _ a_ _ _ c => r_fieldAddr rfl Try.underlying29 rfl rfl Try.sizeOf3 ((c.eo e2 (by kernel_rfl)).trans r0.ptr)),
       Ob.det rfl rfl rfl (fun _ a_ _ _ c => r_load1 rfl Try.isAgg3 (c.ev 0 rfl rfl) ((c.ibox 0 rfl rfl (by kernel_rfl)).cell (j := 0) rfl)),
       Ob.det rfl rfl rfl (fun _ a_ _ _ c => r_move rfl (c.eo e1 (by kernel_rfl))),
       Ob.det rfl rfl rfl (fun _ a_ _ _ c => r_leq rfl (c.ev 1 rfl rfl) (c.ev 2 rfl rfl)),
       Ob.det rfl rfl rfl (fun _ a_ _ _ c => r_move rfl (c.ev 3 rfl rfl)),
       Ob.gdet rfl rfl rfl rfl (gi := 4) (tg := 9) rfl rfl Iff.rfl (fun _ a_ _ _ c hpc => r_move rfl (c.eo e1 (by kernel_rfl))),
       Ob.gdet rfl rfl rfl rfl (gi := 4) (tg := 9) rfl rfl Iff.rfl (fun _ a_ _ _ c hpc => r_fieldAddr rfl Try.underlying29 rfl rfl Try.sizeOf3 ((c.eo e2 (by kernel_rfl)).trans r0.ptr)),
       Ob.gdet rfl rfl rfl rfl (gi := 4) (tg := 9) rfl rfl Iff.rfl (fun _ a_ _ _ c hpc => r_load1 rfl Try.isAgg3 (c.eg 6 rfl rfl hpc) ((c.ibox 0 rfl rfl (by kernel_rfl)).cell (j := 1) rfl)),
       Ob.gdet rfl rfl rfl rfl (gi := 4) (tg := 9) rfl rfl Iff.rfl (fun _ a_ _ _ c hpc => r_leq rfl (c.eg 5 rfl rfl hpc) (c.eg 7 rfl rfl hpc)),
       Ob.det rfl rfl rfl (fun _ a_ _ _ c => r_and rfl (c.ev 4 rfl rfl) (fun h => (c.eg 8 rfl rfl h))),
       Ob.det rfl rfl rfl (fun _ a_ _ _ c => r_assign rfl (c.ev 9 rfl rfl)),
     trivial⟩ ?_
  intro a2 w2 τ2 st2 f2
  replace e0 := f2.old e0 (by kernel_rfl)
  replace e1 := f2.old e1 (by kernel_rfl)
  replace e2 := f2.old e2 (by kernel_rfl)
  have e4 : get a2 4 = (.bool ((decide (p.1 ≤ n)) && (decide (n ≤ p.2)))) := f2.v 10 rfl
  replace r0 : boxR 29 [(.int .i64 (p.1)), (.int .i64 (p.2))] (τ2 0) b1x2 w2 := f2.ibox 0 rfl rfl
  clear f2
  show Code.wp _ _ _ a2 w2
  refine wp_ret ?_
  repeat (first | with_reducible refine then_ret ?_ | with_reducible refine block_ret ?_)
  refine ret1 (fn := Try.f15) rfl st2.defers e4 ?_
  exact ⟨rfl, st2.ext0⟩

set_option maxRecDepth 100000 in
theorem refHas_c (p : Int × Int) (n : Int) (w : World) : Calls Try.prog 21 #[spanV p, .int .i64 n] w (fun e w' => e = .returned (.bool (hasB p n)) ∧ Ext none' w w') := by
  refine enter (n := 15) Try.func21 rfl rfl (Nat.le_of_ble_eq_true rfl) ?_
  intro a0 τ0 ha st0
  have e0 : get a0 0 = (.agg #[(.int .i64 (p.1)), (.int .i64 (p.2))]) := ha 0 _ rfl
  have e1 : get a0 1 = (.int .i64 (n)) := ha 1 _ rfl
  clear ha
  refine wp_seq ?_
  refine region_St (bf := [0, 0]) (sp := [
      (box 29 (Nw w) 0 2 [(.int .i64 (p.1)), (.int .i64 (p.2))]),
        (det (Nw w) 4 (.bool (false)))])
    [] mixed st0 (by kernel_rfl) trivial
    ⟨Ob.box (v := (.agg #[(.int .i64 (p.1)), (.int .i64 (p.2))])) rfl rfl rfl rfl rfl (fun _ _ _ _ c => (c.eo e0 (by kernel_rfl))),
       Ob.det rfl rfl rfl (fun _ a_ _ _ c => r_assign rfl rfl),
     trivial⟩ ?_
  intro a1 w1 τ1 st1 f1
  obtain ⟨b1x2, e2⟩ : ∃ b, get a1 2 = b := ⟨_, rfl⟩
  replace e0 := f1.old e0 (by kernel_rfl)
  replace e1 := f1.old e1 (by kernel_rfl)
  have e4 : get a1 4 = (.bool (false)) := f1.v 1 rfl
  have r0 : boxR 29 [(.int .i64 (p.1)), (.int .i64 (p.2))] (τ1 0) b1x2 w1 := f1.rbox 0 rfl rfl e2
  clear f1
  show Code.wp _ _ _ a1 w1
  refine wp_seq ?_
  refine region_St (bf := [0, 1, 0, 7, 15, 31, 31, 95, 255, 511, 1023]) (sp := [
      (det (Nw w) 5 (.pointer (some ((ptrOf b1x2).add 0)))),
        (det (Nw w) 6 (.int .i64 (p.1))),
        (det (Nw w) 7 (.int .i64 (n))),
        (det (Nw w) 8 (.bool (decide (p.1 ≤ n)))),
        (det (Nw w) 9 (.bool (decide (p.1 ≤ n)))),
        (gdet (Nw w) 10 ((decide (p.1 ≤ n)) = true) (.int .i64 (n))),
        (gdet (Nw w) 11 ((decide (p.1 ≤ n)) = true) (.pointer (some ((ptrOf b1x2).add 1)))),
        (gdet (Nw w) 12 ((decide (p.1 ≤ n)) = true) (.int .i64 (p.2))),
        (gdet (Nw w) 13 ((decide (p.1 ≤ n)) = true) (.bool (decide (n ≤ p.2)))),
        (det (Nw w) 14 (.bool ((decide (p.1 ≤ n)) && (decide (n ≤ p.2))))),
        (det (Nw w) 4 (.bool ((decide (p.1 ≤ n)) && (decide (n ≤ p.2)))))])
    [(ibox 29 (Nw w) b1x2 [(.int .i64 (p.1)), (.int .i64 (p.2))])] mixed st1 (by kernel_rfl) ⟨r0, trivial⟩
    ⟨Ob.det rfl rfl rfl (fun _ a_ _ _ c => r_fieldAddr rfl Try.underlying29 rfl rfl Try.sizeOf3 ((c.eo e2 (by kernel_rfl)).trans r0.ptr)),
       Ob.det rfl rfl rfl (fun _ a_ _ _ c => r_load1 rfl Try.isAgg3 (c.ev 0 rfl rfl) ((c.ibox 0 rfl rfl (by kernel_rfl)).cell (j := 0) rfl)),
       Ob.det rfl rfl rfl (fun _ a_ _ _ c => r_move rfl (c.eo e1 (by kernel_rfl))),
       Ob.det rfl rfl rfl (fun _ a_ _ _ c => r_leq rfl (c.ev 1 rfl rfl) (c.ev 2 rfl rfl)),
       Ob.det rfl rfl rfl (fun _ a_ _ _ c => r_move rfl (c.ev 3 rfl rfl)),
       Ob.gdet rfl rfl rfl rfl (gi := 4) (tg := 9) rfl rfl Iff.rfl (fun _ a_ _ _ c hpc => r_move rfl (c.eo e1 (by kernel_rfl))),
       Ob.gdet rfl rfl rfl rfl (gi := 4) (tg := 9) rfl rfl Iff.rfl (fun _ a_ _ _ c hpc => r_fieldAddr rfl Try.underlying29 rfl rfl Try.sizeOf3 ((c.eo e2 (by kernel_rfl)).trans r0.ptr)),
       Ob.gdet rfl rfl rfl rfl (gi := 4) (tg := 9) rfl rfl Iff.rfl (fun _ a_ _ _ c hpc => r_load1 rfl Try.isAgg3 (c.eg 6 rfl rfl hpc) ((c.ibox 0 rfl rfl (by kernel_rfl)).cell (j := 1) rfl)),
       Ob.gdet rfl rfl rfl rfl (gi := 4) (tg := 9) rfl rfl Iff.rfl (fun _ a_ _ _ c hpc => r_leq rfl (c.eg 5 rfl rfl hpc) (c.eg 7 rfl rfl hpc)),
       Ob.det rfl rfl rfl (fun _ a_ _ _ c => r_and rfl (c.ev 4 rfl rfl) (fun h => (c.eg 8 rfl rfl h))),
       Ob.det rfl rfl rfl (fun _ a_ _ _ c => r_assign rfl (c.ev 9 rfl rfl)),
     trivial⟩ ?_
  intro a2 w2 τ2 st2 f2
  replace e0 := f2.old e0 (by kernel_rfl)
  replace e1 := f2.old e1 (by kernel_rfl)
  replace e2 := f2.old e2 (by kernel_rfl)
  have e4 : get a2 4 = (.bool ((decide (p.1 ≤ n)) && (decide (n ≤ p.2)))) := f2.v 10 rfl
  replace r0 : boxR 29 [(.int .i64 (p.1)), (.int .i64 (p.2))] (τ2 0) b1x2 w2 := f2.ibox 0 rfl rfl
  clear f2
  show Code.wp _ _ _ a2 w2
  refine wp_ret ?_
  repeat (first | with_reducible refine then_ret ?_ | with_reducible refine block_ret ?_)
  refine ret1 (fn := Try.f21) rfl st2.defers e4 ?_
  exact ⟨rfl, st2.ext0⟩

set_option maxRecDepth 100000 in
theorem may_c (p : Int × Int) (n : Int) (w : World) : Calls Try.prog 19 #[spanV p, .int .i64 n] w (fun e w' => e = .returned (.bool (mayB p n)) ∧ Ext none' w w') := by
  refine enter (n := 21) Try.func19 rfl rfl (Nat.le_of_ble_eq_true rfl) ?_
  intro a0 τ0 ha st0
  have e0 : get a0 0 = (.agg #[(.int .i64 (p.1)), (.int .i64 (p.2))]) := ha 0 _ rfl
  have e1 : get a0 1 = (.int .i64 (n)) := ha 1 _ rfl
  clear ha
  refine wp_seq ?_
  refine region_St (bf := [0, 0]) (sp := [
      (box 29 (Nw w) 0 2 [(.int .i64 (p.1)), (.int .i64 (p.2))]),
        (det (Nw w) 4 (.bool (false)))])
    [] mixed st0 (by kernel_rfl) trivial
    ⟨Ob.box (v := (.agg #[(.int .i64 (p.1)), (.int .i64 (p.2))])) rfl rfl rfl rfl rfl (fun _ _ _ _ c => (c.eo e0 (by kernel_rfl))),
       Ob.det rfl rfl rfl (fun _ a_ _ _ c => r_assign rfl rfl),
     trivial⟩ ?_
  intro a1 w1 τ1 st1 f1
  obtain ⟨b1x2, e2⟩ : ∃ b, get a1 2 = b := ⟨_, rfl⟩
  replace e0 := f1.old e0 (by kernel_rfl)
  replace e1 := f1.old e1 (by kernel_rfl)
  have e4 : get a1 4 = (.bool (false)) := f1.v 1 rfl
  have r0 : boxR 29 [(.int .i64 (p.1)), (.int .i64 (p.2))] (τ1 0) b1x2 w1 := f1.rbox 0 rfl rfl e2
  clear f1
  show Code.wp _ _ _ a1 w1
  refine wp_seq ?_
  refine region_St (bf := [0, 1, 3, 7, 15, 31, 15, 79, 255, 511, 1023, 2047, 4095, 2047, 16383, 32767, 65535]) (sp := [
      (det (Nw w) 5 (.pointer (some ((ptrOf b1x2).add 0)))),
        (det (Nw w) 6 (.int .i64 (p.1))),
        (det (Nw w) 7 (.bool (decide (0 ≤ p.1)))),
        (det (Nw w) 8 (.bool (decide (0 ≤ p.1)))),
        (gdet (Nw w) 9 ((decide (0 ≤ p.1)) = true) (.pointer (some ((ptrOf b1x2).add 0)))),
        (gdet (Nw w) 10 ((decide (0 ≤ p.1)) = true) (.int .i64 (p.1))),
        (gdet (Nw w) 11 ((decide (0 ≤ p.1)) = true) (.pointer (some ((ptrOf b1x2).add 1)))),
        (gdet (Nw w) 12 ((decide (0 ≤ p.1)) = true) (.int .i64 (p.2))),
        (gdet (Nw w) 13 ((decide (0 ≤ p.1)) = true) (.bool (decide (p.1 ≤ p.2)))),
        (det (Nw w) 14 (.bool ((decide (0 ≤ p.1)) && (decide (p.1 ≤ p.2))))),
        (det (Nw w) 15 (.bool ((decide (0 ≤ p.1)) && (decide (p.1 ≤ p.2))))),
        (gdet (Nw w) 16 (((decide (0 ≤ p.1)) && (decide (p.1 ≤ p.2))) = true) (.pointer (some ((ptrOf b1x2).add 1)))),
        (gdet (Nw w) 17 (((decide (0 ≤ p.1)) && (decide (p.1 ≤ p.2))) = true) (.int .i64 (p.2))),
        (gdet (Nw w) 18 (((decide (0 ≤ p.1)) && (decide (p.1 ≤ p.2))) = true) (.int .i64 (n))),
        (gdet (Nw w) 19 (((decide (0 ≤ p.1)) && (decide (p.1 ≤ p.2))) = true) (.bool (decide (p.2 ≤ n)))),
        (det (Nw w) 20 (.bool (((decide (0 ≤ p.1)) && (decide (p.1 ≤ p.2))) && (decide (p.2 ≤ n))))),
        (det (Nw w) 4 (.bool (((decide (0 ≤ p.1)) && (decide (p.1 ≤ p.2))) && (decide (p.2 ≤ n)))))])
    [(ibox 29 (Nw w) b1x2 [(.int .i64 (p.1)), (.int .i64 (p.2))])] mixed st1 (by kernel_rfl) ⟨r0, trivial⟩
    ⟨Ob.det rfl rfl rfl (fun _ a_ _ _ c => r_fieldAddr rfl Try.underlying29 rfl rfl Try.sizeOf3 ((c.eo e2 (by kernel_rfl)).trans r0.ptr)),
       Ob.det rfl rfl rfl (fun _ a_ _ _ c => r_load1 rfl Try.isAgg3 (c.ev 0 rfl rfl) ((c.ibox 0 rfl rfl (by kernel_rfl)).cell (j := 0) rfl)),
       Ob.det rfl rfl rfl (fun _ a_ _ _ c => r_geq rfl (c.ev 1 rfl rfl) rfl),
       Ob.det rfl rfl rfl (fun _ a_ _ _ c => r_move rfl (c.ev 2 rfl rfl)),
       Ob.gdet rfl rfl rfl rfl (gi := 3) (tg := 8) rfl rfl Iff.rfl (fun _ a_ _ _ c hpc => r_fieldAddr rfl Try.underlying29 rfl rfl Try.sizeOf3 ((c.eo e2 (by kernel_rfl)).trans r0.ptr)),
       Ob.gdet rfl rfl rfl rfl (gi := 3) (tg := 8) rfl rfl Iff.rfl (fun _ a_ _ _ c hpc => r_load1 rfl Try.isAgg3 (c.eg 4 rfl rfl hpc) ((c.ibox 0 rfl rfl (by kernel_rfl)).cell (j := 0) rfl)),
       Ob.gdet rfl rfl rfl rfl (gi := 3) (tg := 8) rfl rfl Iff.rfl (fun _ a_ _ _ c hpc => r_fieldAddr rfl Try.underlying29 rfl rfl Try.sizeOf3 ((c.eo e2 (by kernel_rfl)).trans r0.ptr)),
       Ob.gdet rfl rfl rfl rfl (gi := 3) (tg := 8) rfl rfl Iff.rfl (fun _ a_ _ _ c hpc => r_load1 rfl Try.isAgg3 (c.eg 6 rfl rfl hpc) ((c.ibox 0 rfl rfl (by kernel_rfl)).cell (j := 1) rfl)),
       Ob.gdet rfl rfl rfl rfl (gi := 3) (tg := 8) rfl rfl Iff.rfl (fun _ a_ _ _ c hpc => r_leq rfl (c.eg 5 rfl rfl hpc) (c.eg 7 rfl rfl hpc)),
       Ob.det rfl rfl rfl (fun _ a_ _ _ c => r_and rfl (c.ev 3 rfl rfl) (fun h => (c.eg 8 rfl rfl h))),
       Ob.det rfl rfl rfl (fun _ a_ _ _ c => r_move rfl (c.ev 9 rfl rfl)),
       Ob.gdet rfl rfl rfl rfl (gi := 10) (tg := 15) rfl rfl Iff.rfl (fun _ a_ _ _ c hpc => r_fieldAddr rfl Try.underlying29 rfl rfl Try.sizeOf3 ((c.eo e2 (by kernel_rfl)).trans r0.ptr)),
       Ob.gdet rfl rfl rfl rfl (gi := 10) (tg := 15) rfl rfl Iff.rfl (fun _ a_ _ _ c hpc => r_load1 rfl Try.isAgg3 (c.eg 11 rfl rfl hpc) ((c.ibox 0 rfl rfl (by kernel_rfl)).cell (j := 1) rfl)),
       Ob.gdet rfl rfl rfl rfl (gi := 10) (tg := 15) rfl rfl Iff.rfl (fun _ a_ _ _ c hpc => r_move rfl (c.eo e1 (by kernel_rfl))),
       Ob.gdet rfl rfl rfl rfl (gi := 10) (tg := 15) rfl rfl Iff.rfl (fun _ a_ _ _ c hpc => r_leq rfl (c.eg 12 rfl rfl hpc) (c.eg 13 rfl rfl hpc)),
       Ob.det rfl rfl rfl (fun _ a_ _ _ c => r_and rfl (c.ev 10 rfl rfl) (fun h => (c.eg 14 rfl rfl h))),
       Ob.det rfl rfl rfl (fun _ a_ _ _ c => r_assign rfl (c.ev 15 rfl rfl)),
     trivial⟩ ?_
  intro a2 w2 τ2 st2 f2
  replace e0 := f2.old e0 (by kernel_rfl)
  replace e1 := f2.old e1 (by kernel_rfl)
  replace e2 := f2.old e2 (by kernel_rfl)
  have e4 : get a2 4 = (.bool (((decide (0 ≤ p.1)) && (decide (p.1 ≤ p.2))) && (decide (p.2 ≤ n)))) := f2.v 16 rfl
  replace r0 : boxR 29 [(.int .i64 (p.1)), (.int .i64 (p.2))] (τ2 0) b1x2 w2 := f2.ibox 0 rfl rfl
  clear f2
  show Code.wp _ _ _ a2 w2
  refine wp_ret ?_
  repeat (first | with_reducible refine then_ret ?_ | with_reducible refine block_ret ?_)
  refine ret1 (fn := Try.f19) rfl st2.defers e4 ?_
  exact ⟨rfl, st2.ext0⟩

set_option maxRecDepth 100000 in
theorem refMay_c (p : Int × Int) (n : Int) (w : World) : Calls Try.prog 20 #[spanV p, .int .i64 n] w (fun e w' => e = .returned (.bool (mayB p n)) ∧ Ext none' w w') := by
  refine enter (n := 21) Try.func20 rfl rfl (Nat.le_of_ble_eq_true rfl) ?_
  intro a0 τ0 ha st0
  have e0 : get a0 0 = (.agg #[(.int .i64 (p.1)), (.int .i64 (p.2))]) := ha 0 _ rfl
  have e1 : get a0 1 = (.int .i64 (n)) := ha 1 _ rfl
  clear ha
  refine wp_seq ?_
  refine region_St (bf := [0, 0]) (sp := [
      (box 29 (Nw w) 0 2 [(.int .i64 (p.1)), (.int .i64 (p.2))]),
        (det (Nw w) 4 (.bool (false)))])
    [] mixed st0 (by kernel_rfl) trivial
    ⟨Ob.box (v := (.agg #[(.int .i64 (p.1)), (.int .i64 (p.2))])) rfl rfl rfl rfl rfl (fun _ _ _ _ c => (c.eo e0 (by kernel_rfl))),
       Ob.det rfl rfl rfl (fun _ a_ _ _ c => r_assign rfl rfl),
     trivial⟩ ?_
  intro a1 w1 τ1 st1 f1
  obtain ⟨b1x2, e2⟩ : ∃ b, get a1 2 = b := ⟨_, rfl⟩
  replace e0 := f1.old e0 (by kernel_rfl)
  replace e1 := f1.old e1 (by kernel_rfl)
  have e4 : get a1 4 = (.bool (false)) := f1.v 1 rfl
  have r0 : boxR 29 [(.int .i64 (p.1)), (.int .i64 (p.2))] (τ1 0) b1x2 w1 := f1.rbox 0 rfl rfl e2
  clear f1
  show Code.wp _ _ _ a1 w1
  refine wp_seq ?_
  refine region_St (bf := [0, 1, 3, 7, 15, 31, 15, 79, 255, 511, 1023, 2047, 4095, 2047, 16383, 32767, 65535]) (sp := [
      (det (Nw w) 5 (.pointer (some ((ptrOf b1x2).add 0)))),
        (det (Nw w) 6 (.int .i64 (p.1))),
        (det (Nw w) 7 (.bool (decide (0 ≤ p.1)))),
        (det (Nw w) 8 (.bool (decide (0 ≤ p.1)))),
        (gdet (Nw w) 9 ((decide (0 ≤ p.1)) = true) (.pointer (some ((ptrOf b1x2).add 0)))),
        (gdet (Nw w) 10 ((decide (0 ≤ p.1)) = true) (.int .i64 (p.1))),
        (gdet (Nw w) 11 ((decide (0 ≤ p.1)) = true) (.pointer (some ((ptrOf b1x2).add 1)))),
        (gdet (Nw w) 12 ((decide (0 ≤ p.1)) = true) (.int .i64 (p.2))),
        (gdet (Nw w) 13 ((decide (0 ≤ p.1)) = true) (.bool (decide (p.1 ≤ p.2)))),
        (det (Nw w) 14 (.bool ((decide (0 ≤ p.1)) && (decide (p.1 ≤ p.2))))),
        (det (Nw w) 15 (.bool ((decide (0 ≤ p.1)) && (decide (p.1 ≤ p.2))))),
        (gdet (Nw w) 16 (((decide (0 ≤ p.1)) && (decide (p.1 ≤ p.2))) = true) (.pointer (some ((ptrOf b1x2).add 1)))),
        (gdet (Nw w) 17 (((decide (0 ≤ p.1)) && (decide (p.1 ≤ p.2))) = true) (.int .i64 (p.2))),
        (gdet (Nw w) 18 (((decide (0 ≤ p.1)) && (decide (p.1 ≤ p.2))) = true) (.int .i64 (n))),
        (gdet (Nw w) 19 (((decide (0 ≤ p.1)) && (decide (p.1 ≤ p.2))) = true) (.bool (decide (p.2 ≤ n)))),
        (det (Nw w) 20 (.bool (((decide (0 ≤ p.1)) && (decide (p.1 ≤ p.2))) && (decide (p.2 ≤ n))))),
        (det (Nw w) 4 (.bool (((decide (0 ≤ p.1)) && (decide (p.1 ≤ p.2))) && (decide (p.2 ≤ n)))))])
    [(ibox 29 (Nw w) b1x2 [(.int .i64 (p.1)), (.int .i64 (p.2))])] mixed st1 (by kernel_rfl) ⟨r0, trivial⟩
    ⟨Ob.det rfl rfl rfl (fun _ a_ _ _ c => r_fieldAddr rfl Try.underlying29 rfl rfl Try.sizeOf3 ((c.eo e2 (by kernel_rfl)).trans r0.ptr)),
       Ob.det rfl rfl rfl (fun _ a_ _ _ c => r_load1 rfl Try.isAgg3 (c.ev 0 rfl rfl) ((c.ibox 0 rfl rfl (by kernel_rfl)).cell (j := 0) rfl)),
       Ob.det rfl rfl rfl (fun _ a_ _ _ c => r_geq rfl (c.ev 1 rfl rfl) rfl),
       Ob.det rfl rfl rfl (fun _ a_ _ _ c => r_move rfl (c.ev 2 rfl rfl)),
       Ob.gdet rfl rfl rfl rfl (gi := 3) (tg := 8) rfl rfl Iff.rfl (fun _ a_ _ _ c hpc => r_fieldAddr rfl Try.underlying29 rfl rfl Try.sizeOf3 ((c.eo e2 (by kernel_rfl)).trans r0.ptr)),
       Ob.gdet rfl rfl rfl rfl (gi := 3) (tg := 8) rfl rfl Iff.rfl (fun _ a_ _ _ c hpc => r_load1 rfl Try.isAgg3 (c.eg 4 rfl rfl hpc) ((c.ibox 0 rfl rfl (by kernel_rfl)).cell (j := 0) rfl)),
       Ob.gdet rfl rfl rfl rfl (gi := 3) (tg := 8) rfl rfl Iff.rfl (fun _ a_ _ _ c hpc => r_fieldAddr rfl Try.underlying29 rfl rfl Try.sizeOf3 ((c.eo e2 (by kernel_rfl)).trans r0.ptr)),
       Ob.gdet rfl rfl rfl rfl (gi := 3) (tg := 8) rfl rfl Iff.rfl (fun _ a_ _ _ c hpc => r_load1 rfl Try.isAgg3 (c.eg 6 rfl rfl hpc) ((c.ibox 0 rfl rfl (by kernel_rfl)).cell (j := 1) rfl)),
       Ob.gdet rfl rfl rfl rfl (gi := 3) (tg := 8) rfl rfl Iff.rfl (fun _ a_ _ _ c hpc => r_leq rfl (c.eg 5 rfl rfl hpc) (c.eg 7 rfl rfl hpc)),
       Ob.det rfl rfl rfl (fun _ a_ _ _ c => r_and rfl (c.ev 3 rfl rfl) (fun h => (c.eg 8 rfl rfl h))),
       Ob.det rfl rfl rfl (fun _ a_ _ _ c => r_move rfl (c.ev 9 rfl rfl)),
       Ob.gdet rfl rfl rfl rfl (gi := 10) (tg := 15) rfl rfl Iff.rfl (fun _ a_ _ _ c hpc => r_fieldAddr rfl Try.underlying29 rfl rfl Try.sizeOf3 ((c.eo e2 (by kernel_rfl)).trans r0.ptr)),
       Ob.gdet rfl rfl rfl rfl (gi := 10) (tg := 15) rfl rfl Iff.rfl (fun _ a_ _ _ c hpc => r_load1 rfl Try.isAgg3 (c.eg 11 rfl rfl hpc) ((c.ibox 0 rfl rfl (by kernel_rfl)).cell (j := 1) rfl)),
       Ob.gdet rfl rfl rfl rfl (gi := 10) (tg := 15) rfl rfl Iff.rfl (fun _ a_ _ _ c hpc => r_move rfl (c.eo e1 (by kernel_rfl))),
       Ob.gdet rfl rfl rfl rfl (gi := 10) (tg := 15) rfl rfl Iff.rfl (fun _ a_ _ _ c hpc => r_leq rfl (c.eg 12 rfl rfl hpc) (c.eg 13 rfl rfl hpc)),
       Ob.det rfl rfl rfl (fun _ a_ _ _ c => r_and rfl (c.ev 10 rfl rfl) (fun h => (c.eg 14 rfl rfl h))),
       Ob.det rfl rfl rfl (fun _ a_ _ _ c => r_assign rfl (c.ev 15 rfl rfl)),
     trivial⟩ ?_
  intro a2 w2 τ2 st2 f2
  replace e0 := f2.old e0 (by kernel_rfl)
  replace e1 := f2.old e1 (by kernel_rfl)
  replace e2 := f2.old e2 (by kernel_rfl)
  have e4 : get a2 4 = (.bool (((decide (0 ≤ p.1)) && (decide (p.1 ≤ p.2))) && (decide (p.2 ≤ n)))) := f2.v 16 rfl
  replace r0 : boxR 29 [(.int .i64 (p.1)), (.int .i64 (p.2))] (τ2 0) b1x2 w2 := f2.ibox 0 rfl rfl
  clear f2
  show Code.wp _ _ _ a2 w2
  refine wp_ret ?_
  repeat (first | with_reducible refine then_ret ?_ | with_reducible refine block_ret ?_)
  refine ret1 (fn := Try.f20) rfl st2.defers e4 ?_
  exact ⟨rfl, st2.ext0⟩

set_option maxRecDepth 100000 in
theorem isNaN_c (x : Int) (w : World) : Calls Try.prog 38 #[.int .i64 x] w (fun e w' => e = .returned (.bool (false)) ∧ Ext none' w w') := by
  refine enter (n := 6) Try.func38 rfl rfl (Nat.le_of_ble_eq_true rfl) ?_
  intro a0 τ0 ha st0
  have e0 : get a0 0 = (.int .i64 (x)) := ha 0 _ rfl
  clear ha
  refine wp_seq ?_
  refine region_St (bf := [0]) (sp := [
      (det (Nw w) 2 (.bool (false)))])
    [] mixed st0 (by kernel_rfl) trivial
    ⟨Ob.det rfl rfl rfl (fun _ a_ _ _ c => r_assign rfl rfl),
     trivial⟩ ?_
  intro a1 w1 τ1 st1 f1
  replace e0 := f1.old e0 (by kernel_rfl)
  have e2 : get a1 2 = (.bool (false)) := f1.v 0 rfl
  clear f1
  show Code.wp _ _ _ a1 w1
  refine wp_seq ?_
  refine region_St (bf := [0, 0, 3, 7]) (sp := [
      (det (Nw w) 3 (.int .i64 (x))),
        (det (Nw w) 4 (.int .i64 (x))),
        (det (Nw w) 5 (.bool (!decide (x = x)))),
        (det (Nw w) 2 (.bool (!decide (x = x))))])
    [] mixed st1 (by kernel_rfl) trivial
    ⟨Ob.det rfl rfl rfl (fun _ a_ _ _ c => r_move rfl (c.eo e0 (by kernel_rfl))),
       Ob.det rfl rfl rfl (fun _ a_ _ _ c => r_move rfl (c.eo e0 (by kernel_rfl))),
       Ob.det rfl rfl rfl (fun _ a_ _ _ c => r_neq rfl (c.ev 0 rfl rfl) (c.ev 1 rfl rfl)),
       Ob.det rfl rfl rfl (fun _ a_ _ _ c => r_assign rfl (c.ev 2 rfl rfl)),
     trivial⟩ ?_
  intro a2 w2 τ2 st2 f2
  replace e0 := f2.old e0 (by kernel_rfl)
  have e2 : get a2 2 = (.bool (!decide (x = x))) := f2.v 3 rfl
  clear f2
  show Code.wp _ _ _ a2 w2
  refine wp_ret ?_
  repeat (first | with_reducible refine then_ret ?_ | with_reducible refine block_ret ?_)
  refine ret1 (fn := Try.f38) rfl st2.defers e2 ?_
  exact ⟨by simp, st2.ext0⟩

set_option maxRecDepth 100000 in
theorem compare_c (x y : Int) (w : World) : Calls Try.prog 34 #[.int .i64 x, .int .i64 y] w (fun e w' => e = .returned (.int .i64 (cmpI x y)) ∧ Ext none' w w') := by
  refine enter (n := 20) Try.func34 rfl rfl (Nat.le_of_ble_eq_true rfl) ?_
  intro a0 τ0 ha st0
  have e0 : get a0 0 = (.int .i64 (x)) := ha 0 _ rfl
  have e1 : get a0 1 = (.int .i64 (y)) := ha 1 _ rfl
  clear ha
  refine wp_seq ?_
  refine region_St (bf := [0]) (sp := [
      (det (Nw w) 4 (.int .i64 (0)))])
    [] mixed st0 (by kernel_rfl) trivial
    ⟨Ob.det rfl rfl rfl (fun _ a_ _ _ c => r_assign rfl rfl),
     trivial⟩ ?_
  intro a1 w1 τ1 st1 f1
  replace e0 := f1.old e0 (by kernel_rfl)
  replace e1 := f1.old e1 (by kernel_rfl)
  have e4 : get a1 4 = (.int .i64 (0)) := f1.v 0 rfl
  clear f1
  show Code.wp _ _ _ a1 w1
  refine wp_seq ?_
  refine region_St (bf := [0, 1, 3]) (sp := [
      (det (Nw w) 7 (.int .i64 (x))),
        (det (Nw w) 8 (.bool (false))),
        (det (Nw w) 5 (.bool (false)))])
    [] mixed st1 (by kernel_rfl) trivial
    ⟨Ob.det rfl rfl rfl (fun _ a_ _ _ c => r_move rfl (c.eo e0 (by kernel_rfl))),
       Ob.call rfl rfl rfl (fun _ a_ _ _ c => ⟨_, _, (e_call1 rfl rfl Try.call38 (c.ev 0 rfl rfl)), isNaN_c x _⟩),
       Ob.det rfl rfl rfl (fun _ a_ _ _ c => r_assign rfl (c.ev 1 rfl rfl)),
     trivial⟩ ?_
  intro a2 w2 τ2 st2 f2
  replace e0 := f2.old e0 (by kernel_rfl)
  replace e1 := f2.old e1 (by kernel_rfl)
  replace e4 := f2.old e4 (by kernel_rfl)
  have e5 : get a2 5 = (.bool (false)) := f2.v 2 rfl
  clear f2
  show Code.wp _ _ _ a2 w2
  refine wp_seq ?_
  refine region_St (bf := [0, 1, 3]) (sp := [
      (det (Nw w) 9 (.int .i64 (y))),
        (det (Nw w) 10 (.bool (false))),
        (det (Nw w) 6 (.bool (false)))])
    [] mixed st2 (by kernel_rfl) trivial
    ⟨Ob.det rfl rfl rfl (fun _ a_ _ _ c => r_move rfl (c.eo e1 (by kernel_rfl))),
       Ob.call rfl rfl rfl (fun _ a_ _ _ c => ⟨_, _, (e_call1 rfl rfl Try.call38 (c.ev 0 rfl rfl)), isNaN_c y _⟩),
       Ob.det rfl rfl rfl (fun _ a_ _ _ c => r_assign rfl (c.ev 1 rfl rfl)),
     trivial⟩ ?_
  intro a3 w3 τ3 st3 f3
  replace e0 := f3.old e0 (by kernel_rfl)
  replace e1 := f3.old e1 (by kernel_rfl)
  replace e4 := f3.old e4 (by kernel_rfl)
  replace e5 := f3.old e5 (by kernel_rfl)
  have e6 : get a3 6 = (.bool (false)) := f3.v 2 rfl
  clear f3
  show Code.wp _ _ _ a3 w3
  refine wp_seq ?_
  refine wp_seq ?_
  refine region_St (bf := [0]) (sp := [
      (det (Nw w) 11 (.bool (false)))])
    [] mixed st3 (by kernel_rfl) trivial
    ⟨Ob.det rfl rfl rfl (fun _ a_ _ _ c => r_move rfl (c.eo e5 (by kernel_rfl))),
     trivial⟩ ?_
  intro a4 w4 τ4 st4 f4
  replace e0 := f4.old e0 (by kernel_rfl)
  replace e1 := f4.old e1 (by kernel_rfl)
  replace e4 := f4.old e4 (by kernel_rfl)
  replace e5 := f4.old e5 (by kernel_rfl)
  replace e6 := f4.old e6 (by kernel_rfl)
  have e11 : get a4 11 = (.bool (false)) := f4.v 0 rfl
  clear f4
  show Code.wp _ _ _ a4 w4
  refine wp_cond_false e11 ?_
  refine wp_skip ?_
  show Code.wp _ _ _ a4 w4
  refine wp_seq ?_
  refine wp_seq ?_
  refine region_St (bf := [0]) (sp := [
      (det (Nw w) 13 (.bool (false)))])
    [] mixed st4 (by kernel_rfl) trivial
    ⟨Ob.det rfl rfl rfl (fun _ a_ _ _ c => r_move rfl (c.eo e6 (by kernel_rfl))),
     trivial⟩ ?_
  intro a5 w5 τ5 st5 f5
  replace e0 := f5.old e0 (by kernel_rfl)
  replace e1 := f5.old e1 (by kernel_rfl)
  replace e4 := f5.old e4 (by kernel_rfl)
  replace e5 := f5.old e5 (by kernel_rfl)
  replace e6 := f5.old e6 (by kernel_rfl)
  replace e11 := f5.old e11 (by kernel_rfl)
  have e13 : get a5 13 = (.bool (false)) := f5.v 0 rfl
  clear f5
  show Code.wp _ _ _ a5 w5
  refine wp_cond_false e13 ?_
  refine wp_skip ?_
  show Code.wp _ _ _ a5 w5
  refine wp_seq ?_
  refine wp_seq ?_
  refine region_St (bf := [0, 0, 3]) (sp := [
      (det (Nw w) 14 (.int .i64 (x))),
        (det (Nw w) 15 (.int .i64 (y))),
        (det (Nw w) 16 (.bool (decide (x < y))))])
    [] mixed st5 (by kernel_rfl) trivial
    ⟨Ob.det rfl rfl rfl (fun _ a_ _ _ c => r_move rfl (c.eo e0 (by kernel_rfl))),
       Ob.det rfl rfl rfl (fun _ a_ _ _ c => r_move rfl (c.eo e1 (by kernel_rfl))),
       Ob.det rfl rfl rfl (fun _ a_ _ _ c => r_lss rfl (c.ev 0 rfl rfl) (c.ev 1 rfl rfl)),
     trivial⟩ ?_
  intro a6 w6 τ6 st6 f6
  replace e0 := f6.old e0 (by kernel_rfl)
  replace e1 := f6.old e1 (by kernel_rfl)
  replace e4 := f6.old e4 (by kernel_rfl)
  replace e5 := f6.old e5 (by kernel_rfl)
  replace e6 := f6.old e6 (by kernel_rfl)
  replace e11 := f6.old e11 (by kernel_rfl)
  replace e13 := f6.old e13 (by kernel_rfl)
  have e16 : get a6 16 = (.bool (decide (x < y))) := f6.v 2 rfl
  clear f6
  show Code.wp _ _ _ a6 w6
  refine wp_cond_split (t := decide (x < y)) e16 (fun hc3 => ?_) (fun hc3 => ?_)
  · try simp only [Bool.and_eq_true, Bool.or_eq_true, decide_eq_true_eq, decide_eq_false_iff_not, Bool.not_eq_true', Bool.and_eq_false_iff, Bool.or_eq_false_iff, Bool.not_eq_false', Int.not_lt, Int.not_le, beq_iff_eq, spanB] at hc3
    refine wp_seq ?_
    refine region_St (bf := [0]) (sp := [
        (det (Nw w) 4 (.int .i64 ((-1))))])
      [] mixed st6 (by kernel_rfl) trivial
      ⟨Ob.det rfl rfl rfl (fun _ a_ _ _ c => r_assign rfl rfl),
       trivial⟩ ?_
    intro a7 w7 τ7 st7 f7
    replace e0 := f7.old e0 (by kernel_rfl)
    replace e1 := f7.old e1 (by kernel_rfl)
    have e4 : get a7 4 = (.int .i64 ((-1))) := f7.v 0 rfl
    replace e5 := f7.old e5 (by kernel_rfl)
    replace e6 := f7.old e6 (by kernel_rfl)
    replace e11 := f7.old e11 (by kernel_rfl)
    replace e13 := f7.old e13 (by kernel_rfl)
    replace e16 := f7.old e16 (by kernel_rfl)
    clear f7
    show Code.wp _ _ _ a7 w7
    refine wp_ret ?_
    repeat (first | with_reducible refine then_ret ?_ | with_reducible refine block_ret ?_)
    refine ret1 (fn := Try.f34) rfl st7.defers e4 ?_
    exact ⟨congrArg _ (int_eq (by unfold cmpI; split <;> (try split) <;> omega)), st7.ext0⟩
  · try simp only [Bool.and_eq_true, Bool.or_eq_true, decide_eq_true_eq, decide_eq_false_iff_not, Bool.not_eq_true', Bool.and_eq_false_iff, Bool.or_eq_false_iff, Bool.not_eq_false', Int.not_lt, Int.not_le, beq_iff_eq, spanB] at hc3
    refine wp_skip ?_
    show Code.wp _ _ _ a6 w6
    refine wp_seq ?_
    refine wp_seq ?_
    refine region_St (bf := [0, 0, 3]) (sp := [
        (det (Nw w) 17 (.int .i64 (x))),
            (det (Nw w) 18 (.int .i64 (y))),
            (det (Nw w) 19 (.bool (decide (y < x))))])
      [] mixed st6 (by kernel_rfl) trivial
      ⟨Ob.det rfl rfl rfl (fun _ a_ _ _ c => r_move rfl (c.eo e0 (by kernel_rfl))),
           Ob.det rfl rfl rfl (fun _ a_ _ _ c => r_move rfl (c.eo e1 (by kernel_rfl))),
           Ob.det rfl rfl rfl (fun _ a_ _ _ c => r_gtr rfl (c.ev 0 rfl rfl) (c.ev 1 rfl rfl)),
       trivial⟩ ?_
    intro a8 w8 τ8 st8 f8
    replace e0 := f8.old e0 (by kernel_rfl)
    replace e1 := f8.old e1 (by kernel_rfl)
    replace e4 := f8.old e4 (by kernel_rfl)
    replace e5 := f8.old e5 (by kernel_rfl)
    replace e6 := f8.old e6 (by kernel_rfl)
    replace e11 := f8.old e11 (by kernel_rfl)
    replace e13 := f8.old e13 (by kernel_rfl)
    replace e16 := f8.old e16 (by kernel_rfl)
    have e19 : get a8 19 = (.bool (decide (y < x))) := f8.v 2 rfl
    clear f8
    show Code.wp _ _ _ a8 w8
    refine wp_cond_split (t := decide (y < x)) e19 (fun hc4 => ?_) (fun hc4 => ?_)
    · try simp only [Bool.and_eq_true, Bool.or_eq_true, decide_eq_true_eq, decide_eq_false_iff_not, Bool.not_eq_true', Bool.and_eq_false_iff, Bool.or_eq_false_iff, Bool.not_eq_false', Int.not_lt, Int.not_le, beq_iff_eq, spanB] at hc4
      refine wp_seq ?_
      refine region_St (bf := [0]) (sp := [
          (det (Nw w) 4 (.int .i64 (1)))])
        [] mixed st8 (by kernel_rfl) trivial
        ⟨Ob.det rfl rfl rfl (fun _ a_ _ _ c => r_assign rfl rfl),
         trivial⟩ ?_
      intro a9 w9 τ9 st9 f9
      replace e0 := f9.old e0 (by kernel_rfl)
      replace e1 := f9.old e1 (by kernel_rfl)
      have e4 : get a9 4 = (.int .i64 (1)) := f9.v 0 rfl
      replace e5 := f9.old e5 (by kernel_rfl)
      replace e6 := f9.old e6 (by kernel_rfl)
      replace e11 := f9.old e11 (by kernel_rfl)
      replace e13 := f9.old e13 (by kernel_rfl)
      replace e16 := f9.old e16 (by kernel_rfl)
      replace e19 := f9.old e19 (by kernel_rfl)
      clear f9
      show Code.wp _ _ _ a9 w9
      refine wp_ret ?_
      repeat (first | with_reducible refine then_ret ?_ | with_reducible refine block_ret ?_)
      refine ret1 (fn := Try.f34) rfl st9.defers e4 ?_
      exact ⟨congrArg _ (int_eq (by unfold cmpI; split <;> (try split) <;> omega)), st9.ext0⟩
    · try simp only [Bool.and_eq_true, Bool.or_eq_true, decide_eq_true_eq, decide_eq_false_iff_not, Bool.not_eq_true', Bool.and_eq_false_iff, Bool.or_eq_false_iff, Bool.not_eq_false', Int.not_lt, Int.not_le, beq_iff_eq, spanB] at hc4
      refine wp_skip ?_
      show Code.wp _ _ _ a8 w8
      refine wp_seq ?_
      refine region_St (bf := [0]) (sp := [
          (det (Nw w) 4 (.int .i64 (0)))])
        [] mixed st8 (by kernel_rfl) trivial
        ⟨Ob.det rfl rfl rfl (fun _ a_ _ _ c => r_assign rfl rfl),
         trivial⟩ ?_
      intro a10 w10 τ10 st10 f10
      replace e0 := f10.old e0 (by kernel_rfl)
      replace e1 := f10.old e1 (by kernel_rfl)
      have e4 : get a10 4 = (.int .i64 (0)) := f10.v 0 rfl
      replace e5 := f10.old e5 (by kernel_rfl)
      replace e6 := f10.old e6 (by kernel_rfl)
      replace e11 := f10.old e11 (by kernel_rfl)
      replace e13 := f10.old e13 (by kernel_rfl)
      replace e16 := f10.old e16 (by kernel_rfl)
      replace e19 := f10.old e19 (by kernel_rfl)
      clear f10
      show Code.wp _ _ _ a10 w10
      refine wp_ret ?_
      repeat (first | with_reducible refine then_ret ?_ | with_reducible refine block_ret ?_)
      refine ret1 (fn := Try.f34) rfl st10.defers e4 ?_
      exact ⟨congrArg _ (int_eq (by unfold cmpI; split <;> (try split) <;> omega)), st10.ext0⟩

set_option maxRecDepth 100000 in
theorem or_c (v : Value) (xs : List Int) (w : World) (hS : SlT IntE w v xs) : Calls Try.prog 33 #[v] w (fun e w' => e = .returned (.int .i64 (orF xs)) ∧ Ext none' w w') := by
  refine enter (n := 18) Try.func33 rfl rfl (Nat.le_of_ble_eq_true rfl) ?_
  intro a0 τ0 ha st0
  have e0 : get a0 0 = v := ha 0 _ rfl
  clear ha
  have hle := hS.le
  refine wp_seq ?_
  refine region_St (bf := [0]) (sp := [
      (det (Nw w) 2 (.int .i64 (0)))])
    [] mixed st0 (by kernel_rfl) trivial
    ⟨Ob.det rfl rfl rfl (fun _ a_ _ _ c => r_assign rfl rfl),
     trivial⟩ ?_
  intro a1 w1 τ1 st1 f1
  replace e0 := f1.old e0 (by kernel_rfl)
  have e2 : get a1 2 = (.int .i64 (0)) := f1.v 0 rfl
  clear f1
  show Code.wp _ _ _ a1 w1
  refine wp_seq ?_
  refine region_St (bf := [0]) (sp := [
      (det (Nw w) 3 (.int .i64 (0)))])
    [] mixed st1 (by kernel_rfl) trivial
    ⟨Ob.det rfl rfl rfl (fun _ a_ _ _ c => r_assign rfl rfl),
     trivial⟩ ?_
  intro a2 w2 τ2 st2 f2
  replace e0 := f2.old e0 (by kernel_rfl)
  replace e2 := f2.old e2 (by kernel_rfl)
  have e3 : get a2 3 = (.int .i64 (0)) := f2.v 0 rfl
  clear f2
  show Code.wp _ _ _ a2 w2
  refine wp_seq ?_
  refine wp_seq ?_
  refine region_St (bf := [0, 1, 0]) (sp := [
      (det (Nw w) 6 v),
        (det (Nw w) 7 (.int .i64 ((xs.length : Int)))),
        (det (Nw w) 8 (.int .i64 (0)))])
    [] mixed st2 (by kernel_rfl) trivial
    ⟨Ob.det rfl rfl rfl (fun _ a_ _ _ c => r_move rfl (c.eo e0 (by kernel_rfl))),
       Ob.det rfl rfl rfl (fun _ a_ _ _ c => r_len rfl Try.underlying46 (c.ev 0 rfl rfl) hS.sl),
       Ob.det rfl rfl rfl (fun _ a_ _ _ c => r_move rfl rfl),
     trivial⟩ ?_
  intro a3 w3 τ3 st3 f3
  replace e0 := f3.old e0 (by kernel_rfl)
  replace e2 := f3.old e2 (by kernel_rfl)
  replace e3 := f3.old e3 (by kernel_rfl)
  have e6 : get a3 6 = v := f3.v 0 rfl
  have e7 : get a3 7 = (.int .i64 ((xs.length : Int))) := f3.v 1 rfl
  have e8 : get a3 8 = (.int .i64 (0)) := f3.v 2 rfl
  clear f3
  show Code.wp _ _ _ a3 w3
  refine wp_block ?_
  refine wp_loop (fun a_ w_ => ∃ (k : Nat) (τ : Nat → Foot), (k ≤ xs.length) ∧
        (∀ x ∈ xs.take k, x = 0) ∧
        St (Nw w) w 18 a_ w_ τ ∧
        get a_ 8 = (.int .i64 ((k : Int))) ∧
        get a_ 0 = v ∧
        get a_ 3 = (.int .i64 (0)) ∧
        get a_ 6 = v ∧
        get a_ 7 = (.int .i64 ((xs.length : Int)))) (fun a_ _ => xs.length - (intOf (get a_ 8)).toNat) ?_ ?_
  · refine ⟨0, τ3, ?_, ?_, st3, (e8.trans (int_eq (by omega))), e0, e3, e6, e7⟩
    · omega
    · simp
  · intro a4 w4 hI
    obtain ⟨k, τ4, q0, q1, st4, e8, e0, e3, e6, e7⟩ := hI
    have m8 := e8
    refine wp_seq ?_
    refine region_St (bf := [0]) (sp := [
        (det (Nw w) 9 (.bool (decide ((k : Int) < (xs.length : Int)))))])
      [] mixed st4 (by kernel_rfl) trivial
      ⟨Ob.det rfl rfl rfl (fun _ a_ _ _ c => r_lss rfl (c.eo e8 (by kernel_rfl)) (c.eo e7 (by kernel_rfl))),
       trivial⟩ ?_
    intro a5 w5 τ5 st5 f5
    replace e0 := f5.old e0 (by kernel_rfl)
    replace e3 := f5.old e3 (by kernel_rfl)
    replace e6 := f5.old e6 (by kernel_rfl)
    replace e7 := f5.old e7 (by kernel_rfl)
    replace e8 := f5.old e8 (by kernel_rfl)
    have e9 : get a5 9 = (.bool (decide ((k : Int) < (xs.length : Int)))) := f5.v 0 rfl
    clear f5
    show Code.wp _ _ _ a5 w5
    refine wp_seq ?_
    refine wp_cond_split (t := decide ((k : Int) < (xs.length : Int))) e9 (fun hc1 => ?_) (fun hc1 => ?_)
    · try simp only [Bool.and_eq_true, Bool.or_eq_true, decide_eq_true_eq, decide_eq_false_iff_not, Bool.not_eq_true', Bool.and_eq_false_iff, Bool.or_eq_false_iff, Bool.not_eq_false', Int.not_lt, Int.not_le, beq_iff_eq, spanB] at hc1
      refine wp_skip ?_
      show Code.wp _ _ _ a5 w5
      refine wp_seq ?_
      refine wp_block ?_
      refine wp_seq ?_
      refine region_St (bf := [0, 1, 3]) (sp := [
          (det (Nw w) 10 (.pointer (some ((ptrOf v).add (((k : Int) : Int).toNat * 1))))),
                (det (Nw w) 11 (.int .i64 ((nth xs ((k : Int)))))),
                (det (Nw w) 5 (.int .i64 ((nth xs ((k : Int))))))])
        [] mixed st5 (by kernel_rfl) trivial
        ⟨Ob.det rfl rfl rfl (fun _ a_ _ _ c => r_indexAddr rfl Try.underlying46 Try.sizeOf3 (c.eo e6 (by kernel_rfl)) hS.sl (c.eo e8 (by kernel_rfl)) (by omega) (by omega)),
               Ob.det rfl rfl rfl (fun _ a_ _ _ c => r_load1 rfl Try.isAgg3 (c.ev 0 rfl rfl) (((hS.at (st5.ext.trans c.J.ext))).elem (j := 0) (nth_some (by omega) (by omega)) rfl)),
               Ob.det rfl rfl rfl (fun _ a_ _ _ c => r_assign rfl (c.ev 1 rfl rfl)),
         trivial⟩ ?_
      intro a6 w6 τ6 st6 f6
      replace e0 := f6.old e0 (by kernel_rfl)
      replace e3 := f6.old e3 (by kernel_rfl)
      have e5 : get a6 5 = (.int .i64 ((nth xs ((k : Int))))) := f6.v 2 rfl
      replace e6 := f6.old e6 (by kernel_rfl)
      replace e7 := f6.old e7 (by kernel_rfl)
      replace e8 := f6.old e8 (by kernel_rfl)
      replace e9 := f6.old e9 (by kernel_rfl)
      clear f6
      show Code.wp _ _ _ a6 w6
      refine wp_seq ?_
      refine region_St (bf := [0, 0, 3]) (sp := [
          (det (Nw w) 12 (.int .i64 ((nth xs ((k : Int)))))),
                (det (Nw w) 13 (.int .i64 (0))),
                (det (Nw w) 14 (.bool (!decide ((nth xs ((k : Int))) = 0))))])
        [] mixed st6 (by kernel_rfl) trivial
        ⟨Ob.det rfl rfl rfl (fun _ a_ _ _ c => r_move rfl (c.eo e5 (by kernel_rfl))),
               Ob.det rfl rfl rfl (fun _ a_ _ _ c => r_move rfl (c.eo e3 (by kernel_rfl))),
               Ob.det rfl rfl rfl (fun _ a_ _ _ c => r_neq rfl (c.ev 0 rfl rfl) (c.ev 1 rfl rfl)),
         trivial⟩ ?_
      intro a7 w7 τ7 st7 f7
      replace e0 := f7.old e0 (by kernel_rfl)
      replace e3 := f7.old e3 (by kernel_rfl)
      replace e5 := f7.old e5 (by kernel_rfl)
      replace e6 := f7.old e6 (by kernel_rfl)
      replace e7 := f7.old e7 (by kernel_rfl)
      replace e8 := f7.old e8 (by kernel_rfl)
      replace e9 := f7.old e9 (by kernel_rfl)
      have e14 : get a7 14 = (.bool (!decide ((nth xs ((k : Int))) = 0))) := f7.v 2 rfl
      clear f7
      show Code.wp _ _ _ a7 w7
      refine wp_cond_split (t := !decide ((nth xs ((k : Int))) = 0)) e14 (fun hc2 => ?_) (fun hc2 => ?_)
      · try simp only [Bool.and_eq_true, Bool.or_eq_true, decide_eq_true_eq, decide_eq_false_iff_not, Bool.not_eq_true', Bool.and_eq_false_iff, Bool.or_eq_false_iff, Bool.not_eq_false', Int.not_lt, Int.not_le, beq_iff_eq, spanB] at hc2
        refine wp_seq ?_
        refine region_St (bf := [0, 1]) (sp := [
            (det (Nw w) 15 (.int .i64 ((nth xs ((k : Int)))))),
                    (det (Nw w) 2 (.int .i64 ((nth xs ((k : Int))))))])
          [] mixed st7 (by kernel_rfl) trivial
          ⟨Ob.det rfl rfl rfl (fun _ a_ _ _ c => r_move rfl (c.eo e5 (by kernel_rfl))),
                   Ob.det rfl rfl rfl (fun _ a_ _ _ c => r_assign rfl (c.ev 0 rfl rfl)),
           trivial⟩ ?_
        intro a8 w8 τ8 st8 f8
        replace e0 := f8.old e0 (by kernel_rfl)
        have e2 : get a8 2 = (.int .i64 ((nth xs ((k : Int))))) := f8.v 1 rfl
        replace e3 := f8.old e3 (by kernel_rfl)
        replace e5 := f8.old e5 (by kernel_rfl)
        replace e6 := f8.old e6 (by kernel_rfl)
        replace e7 := f8.old e7 (by kernel_rfl)
        replace e8 := f8.old e8 (by kernel_rfl)
        replace e9 := f8.old e9 (by kernel_rfl)
        replace e14 := f8.old e14 (by kernel_rfl)
        clear f8
        show Code.wp _ _ _ a8 w8
        refine wp_ret ?_
        repeat (first | with_reducible refine then_ret ?_ | with_reducible refine block_ret ?_)
        refine ret1 (fn := Try.f33) rfl st8.defers e2 ?_
        exact ⟨congrArg _ (int_eq (by first | exact (orF_hit q1 (by omega) (by assumption)).symm | exact (orF_miss q0 q1 (by assumption)).symm)), st8.ext0⟩
      · try simp only [Bool.and_eq_true, Bool.or_eq_true, decide_eq_true_eq, decide_eq_false_iff_not, Bool.not_eq_true', Bool.and_eq_false_iff, Bool.or_eq_false_iff, Bool.not_eq_false', Int.not_lt, Int.not_le, beq_iff_eq, spanB] at hc2
        refine wp_skip ?_
        show _
        show Code.wp _ _ _ a7 w7
        refine region_St (bf := [0, 1]) (sp := [
            (det (Nw w) 16 (.int .i64 ((k : Int) + 1))),
                    (det (Nw w) 8 (.int .i64 ((k : Int) + 1)))])
          [] mixed st7 (by kernel_rfl) trivial
          ⟨Ob.det rfl rfl rfl (fun _ a_ _ _ c => r_add rfl (c.eo e8 (by kernel_rfl)) rfl (by omega)),
                   Ob.det rfl rfl rfl (fun _ a_ _ _ c => r_move rfl (c.ev 0 rfl rfl)),
           trivial⟩ ?_
        intro a9 w9 τ9 st9 f9
        replace e0 := f9.old e0 (by kernel_rfl)
        replace e3 := f9.old e3 (by kernel_rfl)
        replace e5 := f9.old e5 (by kernel_rfl)
        replace e6 := f9.old e6 (by kernel_rfl)
        replace e7 := f9.old e7 (by kernel_rfl)
        have e8 : get a9 8 = (.int .i64 ((k : Int) + 1)) := f9.v 1 rfl
        replace e9 := f9.old e9 (by kernel_rfl)
        replace e14 := f9.old e14 (by kernel_rfl)
        clear f9
        refine ⟨⟨k + 1, τ9, ?_, ?_, st9, (e8.trans (int_eq (by omega))), e0, e3, e6, e7⟩, ?_⟩
        · omega
        · exact take_zero (by omega) q1 (by assumption)
        · simp only [m8, e8, intOf]; omega
    · try simp only [Bool.and_eq_true, Bool.or_eq_true, decide_eq_true_eq, decide_eq_false_iff_not, Bool.not_eq_true', Bool.and_eq_false_iff, Bool.or_eq_false_iff, Bool.not_eq_false', Int.not_lt, Int.not_le, beq_iff_eq, spanB] at hc1
      refine wp_exit ?_
      repeat (with_reducible refine then_exit ?_)
      refine exit_here ?_
      show Code.wp _ _ _ a5 w5
      refine wp_seq ?_
      refine region_St (bf := [0, 1]) (sp := [
          (det (Nw w) 17 (.int .i64 (0))),
                (det (Nw w) 2 (.int .i64 (0)))])
        [] mixed st5 (by kernel_rfl) trivial
        ⟨Ob.det rfl rfl rfl (fun _ a_ _ _ c => r_move rfl (c.eo e3 (by kernel_rfl))),
               Ob.det rfl rfl rfl (fun _ a_ _ _ c => r_assign rfl (c.ev 0 rfl rfl)),
         trivial⟩ ?_
      intro a10 w10 τ10 st10 f10
      replace e0 := f10.old e0 (by kernel_rfl)
      have e2 : get a10 2 = (.int .i64 (0)) := f10.v 1 rfl
      replace e3 := f10.old e3 (by kernel_rfl)
      replace e6 := f10.old e6 (by kernel_rfl)
      replace e7 := f10.old e7 (by kernel_rfl)
      replace e8 := f10.old e8 (by kernel_rfl)
      replace e9 := f10.old e9 (by kernel_rfl)
      clear f10
      show Code.wp _ _ _ a10 w10
      refine wp_ret ?_
      repeat (first | with_reducible refine then_ret ?_ | with_reducible refine block_ret ?_)
      refine ret1 (fn := Try.f33) rfl st10.defers e2 ?_
      exact ⟨congrArg _ (int_eq (by first | exact (orF_hit q1 (by omega) (by assumption)).symm | exact (orF_miss q0 q1 (by assumption)).symm)), st10.ext0⟩

set_option maxRecDepth 100000 in
theorem byFrom_c (p q : Int × Int) (w : World) : Calls Try.prog 29 #[spanV p, spanV q] w (fun e w' => e = .returned (.int .i64 (cmpS p q)) ∧ Ext none' w w') := by
  refine enter (n := 17) Try.func29 rfl rfl (Nat.le_of_ble_eq_true rfl) ?_
  intro a0 τ0 ha st0
  have e0 : get a0 0 = (.agg #[(.int .i64 (p.1)), (.int .i64 (p.2))]) := ha 0 _ rfl
  have e1 : get a0 1 = (.agg #[(.int .i64 (q.1)), (.int .i64 (q.2))]) := ha 1 _ rfl
  clear ha
  refine wp_seq ?_
  refine region_St (bf := [0, 0, 0]) (sp := [
      (box 29 (Nw w) 0 2 [(.int .i64 (p.1)), (.int .i64 (p.2))]),
        (box 29 (Nw w) 1 3 [(.int .i64 (q.1)), (.int .i64 (q.2))]),
        (det (Nw w) 4 (.int .i64 (0)))])
    [] mixed st0 (by kernel_rfl) trivial
    ⟨Ob.box (v := (.agg #[(.int .i64 (p.1)), (.int .i64 (p.2))])) rfl rfl rfl rfl rfl (fun _ _ _ _ c => (c.eo e0 (by kernel_rfl))),
       Ob.box (v := (.agg #[(.int .i64 (q.1)), (.int .i64 (q.2))])) rfl rfl rfl rfl rfl (fun _ _ _ _ c => (c.eo e1 (by kernel_rfl))),
       Ob.det rfl rfl rfl (fun _ a_ _ _ c => r_assign rfl rfl),
     trivial⟩ ?_
  intro a1 w1 τ1 st1 f1
  obtain ⟨b1x2, e2⟩ : ∃ b, get a1 2 = b := ⟨_, rfl⟩
  obtain ⟨b1x3, e3⟩ : ∃ b, get a1 3 = b := ⟨_, rfl⟩
  replace e0 := f1.old e0 (by kernel_rfl)
  replace e1 := f1.old e1 (by kernel_rfl)
  have e4 : get a1 4 = (.int .i64 (0)) := f1.v 2 rfl
  have r0 : boxR 29 [(.int .i64 (p.1)), (.int .i64 (p.2))] (τ1 0) b1x2 w1 := f1.rbox 0 rfl rfl e2
  have r1 : boxR 29 [(.int .i64 (q.1)), (.int .i64 (q.2))] (τ1 1) b1x3 w1 := f1.rbox 1 rfl rfl e3
  clear f1
  show Code.wp _ _ _ a1 w1
  refine wp_seq ?_
  refine region_St (bf := [0, 1, 0, 4, 15, 0, 32, 0, 128, 511, 1023, 2047, 4095]) (sp := [
      (det (Nw w) 5 (.pointer (some ((ptrOf b1x2).add 0)))),
        (det (Nw w) 6 (.int .i64 (p.1))),
        (det (Nw w) 7 (.pointer (some ((ptrOf b1x3).add 0)))),
        (det (Nw w) 8 (.int .i64 (q.1))),
        (det (Nw w) 9 (.int .i64 (cmpI p.1 q.1))),
        (det (Nw w) 10 (.pointer (some ((ptrOf b1x2).add 1)))),
        (det (Nw w) 11 (.int .i64 (p.2))),
        (det (Nw w) 12 (.pointer (some ((ptrOf b1x3).add 1)))),
        (det (Nw w) 13 (.int .i64 (q.2))),
        (det (Nw w) 14 (.int .i64 (cmpI p.2 q.2))),
        (own IntE 3 (Nw w) 2 15 ([cmpI p.1 q.1, cmpI p.2 q.2])),
        (det (Nw w) 16 (.int .i64 (orF ([cmpI p.1 q.1, cmpI p.2 q.2])))),
        (det (Nw w) 4 (.int .i64 (orF ([cmpI p.1 q.1, cmpI p.2 q.2]))))])
    [(ibox 29 (Nw w) b1x2 [(.int .i64 (p.1)), (.int .i64 (p.2))]), (ibox 29 (Nw w) b1x3 [(.int .i64 (q.1)), (.int .i64 (q.2))])] mixed st1 (by kernel_rfl) ⟨r0, r1, trivial⟩
    ⟨Ob.det rfl rfl rfl (fun _ a_ _ _ c => r_fieldAddr rfl Try.underlying29 rfl rfl Try.sizeOf3 ((c.eo e2 (by kernel_rfl)).trans r0.ptr)),
       Ob.det rfl rfl rfl (fun _ a_ _ _ c => r_load1 rfl Try.isAgg3 (c.ev 0 rfl rfl) ((c.ibox 0 rfl rfl (by kernel_rfl)).cell (j := 0) rfl)),
       Ob.det rfl rfl rfl (fun _ a_ _ _ c => r_fieldAddr rfl Try.underlying29 rfl rfl Try.sizeOf3 ((c.eo e3 (by kernel_rfl)).trans r1.ptr)),
       Ob.det rfl rfl rfl (fun _ a_ _ _ c => r_load1 rfl Try.isAgg3 (c.ev 2 rfl rfl) ((c.ibox 1 rfl rfl (by kernel_rfl)).cell (j := 0) rfl)),
       Ob.call rfl rfl rfl (fun _ a_ _ _ c => ⟨_, _, (e_call2 rfl rfl Try.call34 (c.ev 1 rfl rfl) (c.ev 3 rfl rfl)), compare_c p.1 q.1 _⟩),
       Ob.det rfl rfl rfl (fun _ a_ _ _ c => r_fieldAddr rfl Try.underlying29 rfl rfl Try.sizeOf3 ((c.eo e2 (by kernel_rfl)).trans r0.ptr)),
       Ob.det rfl rfl rfl (fun _ a_ _ _ c => r_load1 rfl Try.isAgg3 (c.ev 5 rfl rfl) ((c.ibox 0 rfl rfl (by kernel_rfl)).cell (j := 1) rfl)),
       Ob.det rfl rfl rfl (fun _ a_ _ _ c => r_fieldAddr rfl Try.underlying29 rfl rfl Try.sizeOf3 ((c.eo e3 (by kernel_rfl)).trans r1.ptr)),
       Ob.det rfl rfl rfl (fun _ a_ _ _ c => r_load1 rfl Try.isAgg3 (c.ev 7 rfl rfl) ((c.ibox 1 rfl rfl (by kernel_rfl)).cell (j := 1) rfl)),
       Ob.call rfl rfl rfl (fun _ a_ _ _ c => ⟨_, _, (e_call2 rfl rfl Try.call34 (c.ev 6 rfl rfl) (c.ev 8 rfl rfl)), compare_c p.2 q.2 _⟩),
       Ob.buildSlice (cells := #[(.int .i64 (cmpI p.1 q.1)), (.int .i64 (cmpI p.2 q.2))]) rfl rfl rfl rfl Try.underlying46 Try.sizeOf3 Try.zeroValue3 rfl (by decide) (by decide) (fun _ a_ _ _ c => by simp only [List.map_toArray, List.map_cons, List.map_nil, (show a_.eval (.tmp 9) = (.int .i64 (cmpI p.1 q.1)) from (c.ev 4 rfl rfl)), (show a_.eval (.tmp 14) = (.int .i64 (cmpI p.2 q.2)) from (c.ev 9 rfl rfl))]; kernel_rfl) rfl,
       Ob.call rfl rfl rfl (fun _ a_ _ _ c => ⟨_, _, (e_call1 rfl rfl Try.call33 (eval_tmp _ 15)), or_c _ _ _ (c.rown 10 rfl rfl (by kernel_rfl)).1.sl⟩),
       Ob.det rfl rfl rfl (fun _ a_ _ _ c => r_assign rfl (c.ev 11 rfl rfl)),
     trivial⟩ ?_
  intro a2 w2 τ2 st2 f2
  obtain ⟨b2x15, e15⟩ : ∃ b, get a2 15 = b := ⟨_, rfl⟩
  replace e0 := f2.old e0 (by kernel_rfl)
  replace e1 := f2.old e1 (by kernel_rfl)
  replace e2 := f2.old e2 (by kernel_rfl)
  replace e3 := f2.old e3 (by kernel_rfl)
  have e4 : get a2 4 = (.int .i64 (orF ([cmpI p.1 q.1, cmpI p.2 q.2]))) := f2.v 12 rfl
  replace r0 : boxR 29 [(.int .i64 (p.1)), (.int .i64 (p.2))] (τ2 0) b1x2 w2 := f2.ibox 0 rfl rfl
  replace r1 : boxR 29 [(.int .i64 (q.1)), (.int .i64 (q.2))] (τ2 1) b1x3 w2 := f2.ibox 1 rfl rfl
  have r2 : ownR IntE 3 ([cmpI p.1 q.1, cmpI p.2 q.2]) (τ2 2) b2x15 w2 := f2.rown 10 rfl rfl e15
  clear f2
  show Code.wp _ _ _ a2 w2
  refine wp_ret ?_
  repeat (first | with_reducible refine then_ret ?_ | with_reducible refine block_ret ?_)
  refine ret1 (fn := Try.f29) rfl st2.defers e4 ?_
  exact ⟨rfl, st2.ext0⟩

set_option maxRecDepth 100000 in
theorem low_c (x n : Int) (w : World) (hn : 0 < n) (hn2 : n ≤ 9223372036854775807) : Calls Try.prog 16 #[.int .i64 x, .int .i64 n] w (fun e w' => e = .returned (.int .i64 (lowF x n)) ∧ Ext none' w w') := by
  refine enter (n := 11) Try.func16 rfl rfl (Nat.le_of_ble_eq_true rfl) ?_
  intro a0 τ0 ha st0
  have e0 : get a0 0 = (.int .i64 (x)) := ha 0 _ rfl
  have e1 : get a0 1 = (.int .i64 (n)) := ha 1 _ rfl
  clear ha
  refine wp_seq ?_
  refine region_St (bf := [0]) (sp := [
      (det (Nw w) 4 (.int .i64 (0)))])
    [] mixed st0 (by kernel_rfl) trivial
    ⟨Ob.det rfl rfl rfl (fun _ a_ _ _ c => r_assign rfl rfl),
     trivial⟩ ?_
  intro a1 w1 τ1 st1 f1
  replace e0 := f1.old e0 (by kernel_rfl)
  replace e1 := f1.old e1 (by kernel_rfl)
  have e4 : get a1 4 = (.int .i64 (0)) := f1.v 0 rfl
  clear f1
  show Code.wp _ _ _ a1 w1
  refine wp_seq ?_
  refine region_St (bf := [0, 1, 0, 4, 15, 31, 63]) (sp := [
      (det (Nw w) 5 (.int .i64 (x))),
        (det (Nw w) 6 (.int .u64 (IntKind.u64.wrap (x)))),
        (det (Nw w) 7 (.int .i64 (n))),
        (det (Nw w) 8 (.int .u64 (IntKind.u64.wrap (n)))),
        (det (Nw w) 9 (.int .u64 ((IntKind.u64.wrap (x)).tmod (IntKind.u64.wrap (n))))),
        (det (Nw w) 10 (.int .i64 (IntKind.i64.wrap ((IntKind.u64.wrap (x)).tmod (IntKind.u64.wrap (n)))))),
        (det (Nw w) 4 (.int .i64 (IntKind.i64.wrap ((IntKind.u64.wrap (x)).tmod (IntKind.u64.wrap (n))))))])
    [] mixed st1 (by kernel_rfl) trivial
    ⟨Ob.det rfl rfl rfl (fun _ a_ _ _ c => r_move rfl (c.eo e0 (by kernel_rfl))),
       Ob.det rfl rfl rfl (fun _ a_ _ _ c => r_conv rfl Try.underlying3 Try.underlying41 (c.ev 0 rfl rfl)),
       Ob.det rfl rfl rfl (fun _ a_ _ _ c => r_move rfl (c.eo e1 (by kernel_rfl))),
       Ob.det rfl rfl rfl (fun _ a_ _ _ c => r_conv rfl Try.underlying3 Try.underlying41 (c.ev 2 rfl rfl)),
       Ob.det rfl rfl rfl (fun _ a_ _ _ c => r_rem rfl (c.ev 1 rfl rfl) (c.ev 3 rfl rfl) (by exact u64_pos hn hn2)),
       Ob.det rfl rfl rfl (fun _ a_ _ _ c => r_conv rfl Try.underlying41 Try.underlying3 (c.ev 4 rfl rfl)),
       Ob.det rfl rfl rfl (fun _ a_ _ _ c => r_assign rfl (c.ev 5 rfl rfl)),
     trivial⟩ ?_
  intro a2 w2 τ2 st2 f2
  replace e0 := f2.old e0 (by kernel_rfl)
  replace e1 := f2.old e1 (by kernel_rfl)
  have e4 : get a2 4 = (.int .i64 (IntKind.i64.wrap ((IntKind.u64.wrap (x)).tmod (IntKind.u64.wrap (n))))) := f2.v 6 rfl
  clear f2
  show Code.wp _ _ _ a2 w2
  refine wp_ret ?_
  repeat (first | with_reducible refine then_ret ?_ | with_reducible refine block_ret ?_)
  refine ret1 (fn := Try.f16) rfl st2.defers e4 ?_
  exact ⟨rfl, st2.ext0⟩

set_option maxRecDepth 100000 in
theorem spans_c (v u : Value) (xs ys : List (Int × Int)) (w : World) (hS : SlT SpanE w v xs) (hU : SlT SpanE w u ys) : Calls Try.prog 12 #[v, u] w (fun e w' => e = .returned (.bool (decide (xs = ys))) ∧ Ext none' w w') := by
  refine enter (n := 26) Try.func12 rfl rfl (Nat.le_of_ble_eq_true rfl) ?_
  intro a0 τ0 ha st0
  have e0 : get a0 0 = v := ha 0 _ rfl
  have e1 : get a0 1 = u := ha 1 _ rfl
  clear ha
  have hle := hS.le
  have hle2 := hU.le
  refine wp_seq ?_
  refine region_St (bf := [0]) (sp := [
      (det (Nw w) 4 (.bool (false)))])
    [] mixed st0 (by kernel_rfl) trivial
    ⟨Ob.det rfl rfl rfl (fun _ a_ _ _ c => r_assign rfl rfl),
     trivial⟩ ?_
  intro a1 w1 τ1 st1 f1
  replace e0 := f1.old e0 (by kernel_rfl)
  replace e1 := f1.old e1 (by kernel_rfl)
  have e4 : get a1 4 = (.bool (false)) := f1.v 0 rfl
  clear f1
  show Code.wp _ _ _ a1 w1
  refine wp_seq ?_
  refine wp_seq ?_
  refine region_St (bf := [0, 1, 0, 4, 15]) (sp := [
      (det (Nw w) 6 v),
        (det (Nw w) 7 (.int .i64 ((xs.length : Int)))),
        (det (Nw w) 8 u),
        (det (Nw w) 9 (.int .i64 ((ys.length : Int)))),
        (det (Nw w) 10 (.bool (!decide ((xs.length : Int) = (ys.length : Int)))))])
    [] mixed st1 (by kernel_rfl) trivial
    ⟨Ob.det rfl rfl rfl (fun _ a_ _ _ c => r_move rfl (c.eo e0 (by kernel_rfl))),
       Ob.det rfl rfl rfl (fun _ a_ _ _ c => r_len rfl Try.underlying22 (c.ev 0 rfl rfl) hS.sl),
       Ob.det rfl rfl rfl (fun _ a_ _ _ c => r_move rfl (c.eo e1 (by kernel_rfl))),
       Ob.det rfl rfl rfl (fun _ a_ _ _ c => r_len rfl Try.underlying22 (c.ev 2 rfl rfl) hU.sl),
       Ob.det rfl rfl rfl (fun _ a_ _ _ c => r_neq rfl (c.ev 1 rfl rfl) (c.ev 3 rfl rfl)),
     trivial⟩ ?_
  intro a2 w2 τ2 st2 f2
  replace e0 := f2.old e0 (by kernel_rfl)
  replace e1 := f2.old e1 (by kernel_rfl)
  replace e4 := f2.old e4 (by kernel_rfl)
  have e10 : get a2 10 = (.bool (!decide ((xs.length : Int) = (ys.length : Int)))) := f2.v 4 rfl
  clear f2
  show Code.wp _ _ _ a2 w2
  refine wp_cond_split (t := !decide ((xs.length : Int) = (ys.length : Int))) e10 (fun hc1 => ?_) (fun hc1 => ?_)
  · try simp only [Bool.and_eq_true, Bool.or_eq_true, decide_eq_true_eq, decide_eq_false_iff_not, Bool.not_eq_true', Bool.and_eq_false_iff, Bool.or_eq_false_iff, Bool.not_eq_false', Int.not_lt, Int.not_le, beq_iff_eq, spanB] at hc1
    refine wp_seq ?_
    refine region_St (bf := [0]) (sp := [
        (det (Nw w) 4 (.bool (false)))])
      [] mixed st2 (by kernel_rfl) trivial
      ⟨Ob.det rfl rfl rfl (fun _ a_ _ _ c => r_assign rfl rfl),
       trivial⟩ ?_
    intro a3 w3 τ3 st3 f3
    replace e0 := f3.old e0 (by kernel_rfl)
    replace e1 := f3.old e1 (by kernel_rfl)
    have e4 : get a3 4 = (.bool (false)) := f3.v 0 rfl
    replace e10 := f3.old e10 (by kernel_rfl)
    clear f3
    show Code.wp _ _ _ a3 w3
    refine wp_ret ?_
    repeat (first | with_reducible refine then_ret ?_ | with_reducible refine block_ret ?_)
    refine ret1 (fn := Try.f12) rfl st3.defers e4 ?_
    exact ⟨congrArg _ (congrArg _ (by first | (symm; exact decide_eq_false (fun h => by subst h; omega)) | (symm; exact decide_eq_false (differ (by assumption))) | (symm; exact decide_eq_true (all_same q1 q0 q2 (by assumption))))), st3.ext0⟩
  · try simp only [Bool.and_eq_true, Bool.or_eq_true, decide_eq_true_eq, decide_eq_false_iff_not, Bool.not_eq_true', Bool.and_eq_false_iff, Bool.or_eq_false_iff, Bool.not_eq_false', Int.not_lt, Int.not_le, beq_iff_eq, spanB] at hc1
    refine wp_skip ?_
    show Code.wp _ _ _ a2 w2
    refine wp_seq ?_
    refine wp_seq ?_
    refine region_St (bf := [0]) (sp := [
        (det (Nw w) 5 (.int .i64 (0)))])
      [] mixed st2 (by kernel_rfl) trivial
      ⟨Ob.det rfl rfl rfl (fun _ a_ _ _ c => r_assign rfl rfl),
       trivial⟩ ?_
    intro a4 w4 τ4 st4 f4
    replace e0 := f4.old e0 (by kernel_rfl)
    replace e1 := f4.old e1 (by kernel_rfl)
    replace e4 := f4.old e4 (by kernel_rfl)
    have e5 : get a4 5 = (.int .i64 (0)) := f4.v 0 rfl
    replace e10 := f4.old e10 (by kernel_rfl)
    clear f4
    show Code.wp _ _ _ a4 w4
    refine wp_block ?_
    refine wp_loop (fun a_ w_ => ∃ (k : Nat) (τ : Nat → Foot), (k ≤ xs.length) ∧
            (xs.length = ys.length) ∧
            (xs.take k = ys.take k) ∧
            St (Nw w) w 26 a_ w_ τ ∧
            get a_ 5 = (.int .i64 ((k : Int))) ∧
            get a_ 0 = v ∧
            get a_ 1 = u ∧
            get a_ 10 = (.bool (!decide ((xs.length : Int) = (ys.length : Int))))) (fun a_ _ => xs.length - (intOf (get a_ 5)).toNat) ?_ ?_
    · refine ⟨0, τ4, ?_, ?_, ?_, st4, (e5.trans (int_eq (by omega))), e0, e1, e10⟩
      · omega
      · omega
      · simp
    · intro a5 w5 hI
      obtain ⟨k, τ5, q0, q1, q2, st5, e5, e0, e1, e10⟩ := hI
      have m5 := e5
      refine wp_seq ?_
      refine wp_seq ?_
      refine region_St (bf := [0, 0, 2, 7]) (sp := [
          (det (Nw w) 11 (.int .i64 ((k : Int)))),
                (det (Nw w) 12 v),
                (det (Nw w) 13 (.int .i64 ((xs.length : Int)))),
                (det (Nw w) 14 (.bool (decide ((k : Int) < (xs.length : Int)))))])
        [] mixed st5 (by kernel_rfl) trivial
        ⟨Ob.det rfl rfl rfl (fun _ a_ _ _ c => r_move rfl (c.eo e5 (by kernel_rfl))),
               Ob.det rfl rfl rfl (fun _ a_ _ _ c => r_move rfl (c.eo e0 (by kernel_rfl))),
               Ob.det rfl rfl rfl (fun _ a_ _ _ c => r_len rfl Try.underlying22 (c.ev 1 rfl rfl) hS.sl),
               Ob.det rfl rfl rfl (fun _ a_ _ _ c => r_lss rfl (c.ev 0 rfl rfl) (c.ev 2 rfl rfl)),
         trivial⟩ ?_
      intro a6 w6 τ6 st6 f6
      replace e0 := f6.old e0 (by kernel_rfl)
      replace e1 := f6.old e1 (by kernel_rfl)
      replace e5 := f6.old e5 (by kernel_rfl)
      replace e10 := f6.old e10 (by kernel_rfl)
      have e14 : get a6 14 = (.bool (decide ((k : Int) < (xs.length : Int)))) := f6.v 3 rfl
      clear f6
      show Code.wp _ _ _ a6 w6
      refine wp_cond_split (t := decide ((k : Int) < (xs.length : Int))) e14 (fun hc2 => ?_) (fun hc2 => ?_)
      · try simp only [Bool.and_eq_true, Bool.or_eq_true, decide_eq_true_eq, decide_eq_false_iff_not, Bool.not_eq_true', Bool.and_eq_false_iff, Bool.or_eq_false_iff, Bool.not_eq_false', Int.not_lt, Int.not_le, beq_iff_eq, spanB] at hc2
        refine wp_skip ?_
        show Code.wp _ _ _ a6 w6
        refine wp_seq ?_
        refine wp_block ?_
        refine wp_seq ?_
        refine region_St (bf := [0, 0, 3, 7, 0, 0, 48, 112, 255]) (sp := [
            (det (Nw w) 17 v),
                    (det (Nw w) 18 (.int .i64 ((k : Int)))),
                    (det (Nw w) 19 (.pointer (some ((ptrOf v).add (((k : Int) : Int).toNat * 2))))),
                    (det (Nw w) 20 (.agg #[(.int .i64 ((nth xs ((k : Int))).1)), (.int .i64 ((nth xs ((k : Int))).2))])),
                    (det (Nw w) 21 u),
                    (det (Nw w) 22 (.int .i64 ((k : Int)))),
                    (det (Nw w) 23 (.pointer (some ((ptrOf u).add (((k : Int) : Int).toNat * 2))))),
                    (det (Nw w) 24 (.agg #[(.int .i64 ((nth ys ((k : Int))).1)), (.int .i64 ((nth ys ((k : Int))).2))])),
                    (det (Nw w) 25 (.bool (!(spanB (nth xs ((k : Int))) (nth ys ((k : Int)))))))])
          [] mixed st6 (by kernel_rfl) trivial
          ⟨Ob.det rfl rfl rfl (fun _ a_ _ _ c => r_move rfl (c.eo e0 (by kernel_rfl))),
                   Ob.det rfl rfl rfl (fun _ a_ _ _ c => r_move rfl (c.eo e5 (by kernel_rfl))),
                   Ob.det rfl rfl rfl (fun _ a_ _ _ c => r_indexAddr rfl Try.underlying22 Try.sizeOf29 (c.ev 0 rfl rfl) hS.sl (c.ev 1 rfl rfl) (by omega) (by omega)),
                   Ob.det rfl rfl rfl (fun _ a_ _ _ c => r_loadN (vs := [(.int .i64 ((nth xs ((k : Int))).1)), (.int .i64 ((nth xs ((k : Int))).2))]) rfl Try.isAgg29 Try.sizeOf29 (c.ev 2 rfl rfl) rfl (fun _ _ hj => ((hS.at (st6.ext.trans c.J.ext))).elem (nth_some (by omega) (by omega)) hj)),
                   Ob.det rfl rfl rfl (fun _ a_ _ _ c => r_move rfl (c.eo e1 (by kernel_rfl))),
                   Ob.det rfl rfl rfl (fun _ a_ _ _ c => r_move rfl (c.eo e5 (by kernel_rfl))),
                   Ob.det rfl rfl rfl (fun _ a_ _ _ c => r_indexAddr rfl Try.underlying22 Try.sizeOf29 (c.ev 4 rfl rfl) hU.sl (c.ev 5 rfl rfl) (by omega) (by omega)),
                   Ob.det rfl rfl rfl (fun _ a_ _ _ c => r_loadN (vs := [(.int .i64 ((nth ys ((k : Int))).1)), (.int .i64 ((nth ys ((k : Int))).2))]) rfl Try.isAgg29 Try.sizeOf29 (c.ev 6 rfl rfl) rfl (fun _ _ hj => ((hU.at (st6.ext.trans c.J.ext))).elem (nth_some (by omega) (by omega)) hj)),
                   Ob.det rfl rfl rfl (fun _ a_ _ _ c => span_ne rfl (c.ev 3 rfl rfl) (c.ev 7 rfl rfl)),
           trivial⟩ ?_
        intro a7 w7 τ7 st7 f7
        replace e0 := f7.old e0 (by kernel_rfl)
        replace e1 := f7.old e1 (by kernel_rfl)
        replace e5 := f7.old e5 (by kernel_rfl)
        replace e10 := f7.old e10 (by kernel_rfl)
        replace e14 := f7.old e14 (by kernel_rfl)
        have e25 : get a7 25 = (.bool (!(spanB (nth xs ((k : Int))) (nth ys ((k : Int)))))) := f7.v 8 rfl
        clear f7
        show Code.wp _ _ _ a7 w7
        refine wp_cond_split (t := !(spanB (nth xs ((k : Int))) (nth ys ((k : Int))))) e25 (fun hc3 => ?_) (fun hc3 => ?_)
        · try simp only [Bool.and_eq_true, Bool.or_eq_true, decide_eq_true_eq, decide_eq_false_iff_not, Bool.not_eq_true', Bool.and_eq_false_iff, Bool.or_eq_false_iff, Bool.not_eq_false', Int.not_lt, Int.not_le, beq_iff_eq, spanB] at hc3
          refine wp_seq ?_
          refine region_St (bf := [0]) (sp := [
              (det (Nw w) 4 (.bool (false)))])
            [] mixed st7 (by kernel_rfl) trivial
            ⟨Ob.det rfl rfl rfl (fun _ a_ _ _ c => r_assign rfl rfl),
             trivial⟩ ?_
          intro a8 w8 τ8 st8 f8
          replace e0 := f8.old e0 (by kernel_rfl)
          replace e1 := f8.old e1 (by kernel_rfl)
          have e4 : get a8 4 = (.bool (false)) := f8.v 0 rfl
          replace e5 := f8.old e5 (by kernel_rfl)
          replace e10 := f8.old e10 (by kernel_rfl)
          replace e14 := f8.old e14 (by kernel_rfl)
          replace e25 := f8.old e25 (by kernel_rfl)
          clear f8
          show Code.wp _ _ _ a8 w8
          refine wp_ret ?_
          repeat (first | with_reducible refine then_ret ?_ | with_reducible refine block_ret ?_)
          refine ret1 (fn := Try.f12) rfl st8.defers e4 ?_
          exact ⟨congrArg _ (congrArg _ (by first | (symm; exact decide_eq_false (fun h => by subst h; omega)) | (symm; exact decide_eq_false (differ (by assumption))) | (symm; exact decide_eq_true (all_same q1 q0 q2 (by assumption))))), st8.ext0⟩
        · try simp only [Bool.and_eq_true, Bool.or_eq_true, decide_eq_true_eq, decide_eq_false_iff_not, Bool.not_eq_true', Bool.and_eq_false_iff, Bool.or_eq_false_iff, Bool.not_eq_false', Int.not_lt, Int.not_le, beq_iff_eq, spanB] at hc3
          refine wp_skip ?_
          show _
          show Code.wp _ _ _ a7 w7
          refine region_St (bf := [0, 1, 3]) (sp := [
              (det (Nw w) 15 (.int .i64 ((k : Int)))),
                        (det (Nw w) 16 (.int .i64 ((k : Int) + 1))),
                        (det (Nw w) 5 (.int .i64 ((k : Int) + 1)))])
            [] mixed st7 (by kernel_rfl) trivial
            ⟨Ob.det rfl rfl rfl (fun _ a_ _ _ c => r_move rfl (c.eo e5 (by kernel_rfl))),
                       Ob.det rfl rfl rfl (fun _ a_ _ _ c => r_add rfl (c.ev 0 rfl rfl) rfl (by omega)),
                       Ob.det rfl rfl rfl (fun _ a_ _ _ c => r_assign rfl (c.ev 1 rfl rfl)),
             trivial⟩ ?_
          intro a9 w9 τ9 st9 f9
          replace e0 := f9.old e0 (by kernel_rfl)
          replace e1 := f9.old e1 (by kernel_rfl)
          have e5 : get a9 5 = (.int .i64 ((k : Int) + 1)) := f9.v 2 rfl
          replace e10 := f9.old e10 (by kernel_rfl)
          replace e14 := f9.old e14 (by kernel_rfl)
          replace e25 := f9.old e25 (by kernel_rfl)
          clear f9
          refine ⟨⟨k + 1, τ9, ?_, ?_, ?_, st9, (e5.trans (int_eq (by omega))), e0, e1, e10⟩, ?_⟩
          · omega
          · omega
          · exact take_same (by omega) (by omega) q2 (by assumption)
          · simp only [m5, e5, intOf]; omega
      · try simp only [Bool.and_eq_true, Bool.or_eq_true, decide_eq_true_eq, decide_eq_false_iff_not, Bool.not_eq_true', Bool.and_eq_false_iff, Bool.or_eq_false_iff, Bool.not_eq_false', Int.not_lt, Int.not_le, beq_iff_eq, spanB] at hc2
        refine wp_exit ?_
        repeat (with_reducible refine then_exit ?_)
        refine exit_here ?_
        show Code.wp _ _ _ a6 w6
        refine wp_seq ?_
        refine region_St (bf := [0]) (sp := [
            (det (Nw w) 4 (.bool (true)))])
          [] mixed st6 (by kernel_rfl) trivial
          ⟨Ob.det rfl rfl rfl (fun _ a_ _ _ c => r_assign rfl rfl),
           trivial⟩ ?_
        intro a10 w10 τ10 st10 f10
        replace e0 := f10.old e0 (by kernel_rfl)
        replace e1 := f10.old e1 (by kernel_rfl)
        have e4 : get a10 4 = (.bool (true)) := f10.v 0 rfl
        replace e5 := f10.old e5 (by kernel_rfl)
        replace e10 := f10.old e10 (by kernel_rfl)
        replace e14 := f10.old e14 (by kernel_rfl)
        clear f10
        show Code.wp _ _ _ a10 w10
        refine wp_ret ?_
        repeat (first | with_reducible refine then_ret ?_ | with_reducible refine block_ret ?_)
        refine ret1 (fn := Try.f12) rfl st10.defers e4 ?_
        exact ⟨congrArg _ (congrArg _ (by first | (symm; exact decide_eq_false (fun h => by subst h; omega)) | (symm; exact decide_eq_false (differ (by assumption))) | (symm; exact decide_eq_true (all_same q1 q0 q2 (by assumption))))), st10.ext0⟩
end B
end Go.Proofs.Ytgcpgdhadeekcaa
