/-
  The walks over package span and its reference, function by function: what each call hands back. Printed by a program (gen.py).
-/
import Derived.Test.YtjapbdofhbfmfaaBase7
import Derived.Test.YtjapbdofhbfmfaaChecked
set_option linter.unusedSimpArgs false
set_option linter.unusedVariables false
namespace Go.Proofs.Ytjapbdofhbfmfaa
namespace B
open Go.RowKit
theorem mixed : Try.prog.follows .mixedOrders = true := by kernel_rfl
def lessB (p q : Int × Int) : Bool := decide (p.1 < q.1) || (decide (p.1 = q.1) && decide (p.2 < q.2))
def touchB (p q : Int × Int) : Bool := decide (max p.1 q.1 ≤ min p.2 q.2)
def overlapB (p q : Int × Int) : Bool := decide (max p.1 q.1 < min p.2 q.2)
def withinB (p q : Int × Int) : Bool := decide (q.1 ≤ p.1) && decide (p.2 ≤ q.2)
def hasB (p : Int × Int) (n : Int) : Bool := decide (p.1 ≤ n) && decide (n ≤ p.2)
def mayB (p : Int × Int) (n : Int) : Bool := decide (0 ≤ p.1) && decide (p.1 ≤ p.2) && decide (p.2 ≤ n)
def cmpI (x y : Int) : Int := if x < y then -1 else if y < x then 1 else 0
def orF (xs : List Int) : Int := (xs.find? (fun x => x != 0)).getD 0
def cmpS (p q : Int × Int) : Int := orF [cmpI p.1 q.1, cmpI p.2 q.2]
def lowF (x n : Int) : Int := IntKind.i64.wrap ((IntKind.u64.wrap x).tmod (IntKind.u64.wrap n))
theorem u64_pos {n : Int} (h : 0 < n) (h2 : n ≤ 9223372036854775807) : IntKind.u64.wrap n ≠ 0 := by
  have : IntKind.u64.wrap n = n := by simp [IntKind.wrap, IntKind.signed, IntKind.bits]; omega
  omega
theorem take_snoc {α : Type} [Inhabited α] {xs : List α} {k : Nat} (h : k < xs.length) : xs.take (k + 1) = xs.take k ++ [nth xs k] := by
  rw [List.take_succ_eq_append_getElem h]
  simp [nth, List.getD, List.getElem?_eq_getElem h]
theorem take_zero {xs : List Int} {k : Nat} (h : k < xs.length) (hq : ∀ x ∈ xs.take k, x = 0) (h0 : nth xs (k : Int) = 0) : ∀ x ∈ xs.take (k + 1), x = 0 := by
  rw [take_snoc h]
  intro x hx
  rcases List.mem_append.1 hx with hx | hx
  · exact hq x hx
  · simp at hx; rw [hx]; exact h0
theorem orF_hit {xs : List Int} {k : Nat} (hq : ∀ x ∈ xs.take k, x = 0) (h : k < xs.length) (h0 : ¬ nth xs (k : Int) = 0) : orF xs = nth xs (k : Int) := by
  have e : xs = xs.take k ++ nth xs (k : Int) :: xs.drop (k + 1) := by
    conv => lhs; rw [← List.take_append_drop (k + 1) xs, take_snoc h]
    simp
  have hn : (xs.take k).find? (fun x => x != 0) = none := List.find?_eq_none.2 fun x hx => by simp [hq x hx]
  unfold orF
  rw [e, List.find?_append, hn]
  rw [← e]
  simp [List.find?_cons, h0]
theorem orF_miss {xs : List Int} {k : Nat} (hk : k ≤ xs.length) (hq : ∀ x ∈ xs.take k, x = 0) (h : (xs.length : Int) ≤ k) : orF xs = 0 := by
  rw [List.take_of_length_le (by omega)] at hq
  have hn : xs.find? (fun x => x != 0) = none := List.find?_eq_none.2 fun x hx => by simp [hq x hx]
  simp [orF, hn]
theorem take_same {α : Type} [Inhabited α] {xs ys : List α} {k : Nat} (h : k < xs.length) (h' : k < ys.length) (hq : xs.take k = ys.take k) (h0 : nth xs (k : Int) = nth ys (k : Int)) : xs.take (k + 1) = ys.take (k + 1) := by
  rw [take_snoc h, take_snoc h', hq, h0]
theorem differ {α : Type} [Inhabited α] {xs ys : List α} {i : Int} (h : ¬ nth xs i = nth ys i) : ¬ xs = ys := fun e => h (by rw [e])
theorem all_same {α : Type} {xs ys : List α} {k : Nat} (hl : xs.length = ys.length) (hk : k ≤ xs.length) (hq : xs.take k = ys.take k) (h : (xs.length : Int) ≤ k) : xs = ys := by
  rwa [List.take_of_length_le (by omega), List.take_of_length_le (by omega)] at hq
def selB (p q : Int × Int) : Bool := decide (p = q)
theorem selB_eq (p q : Int × Int) : selB p q = (decide (p.1 = q.1) && decide (p.2 = q.2)) := by
  rw [Bool.eq_iff_iff]; simp [selB, Prod.ext_iff]
theorem sel_run (p q : Int × Int) (w : World) : (Op.equal 33 (spanV p) (spanV q)).run Try.prog w = .ok (selB p q) w := by
  rw [selB_eq]
  have h := run_equalIn_struct (P := Try.prog) w 9999 33 #[.int .i64 p.1, .int .i64 p.2] #[.int .i64 q.1, .int .i64 q.2] rfl Try.stoodInHeld33
  simp only [Op.equal, Op.maxDepth, spanV, h]
  simp [Program.fieldsOf, Op.eqFields, part, go_sem]
  by_cases h1 : p.1 = q.1 <;> by_cases h2 : p.2 = q.2 <;> simp [h1, h2]
theorem sel_eq {a : Act} {o : Oper} {w : World} {x y : Operand} {t' : TypeId} {p q : Int × Int} (ho : o.op = .binOp .eql 33 x y t') (hx : a.eval x = spanV p) (hy : a.eval y = spanV q) : Runs Try.prog a o w (.bool (selB p q)) := by
  have h := sel_run p q w
  simp only [spanV] at h hx hy
  simp [Runs, execOp, ho, hx, hy, eqGuard, binOp, h]
theorem sel_ne {a : Act} {o : Oper} {w : World} {x y : Operand} {t' : TypeId} {p q : Int × Int} (ho : o.op = .binOp .neq 33 x y t') (hx : a.eval x = spanV p) (hy : a.eval y = spanV q) : Runs Try.prog a o w (.bool (!selB p q)) := by
  have h := sel_run p q w
  simp only [spanV] at h hx hy
  simp [Runs, execOp, ho, hx, hy, eqGuard, binOp, h]
def sspan (s : Int × Int) : Int × Int := (min s.1 s.2, max s.1 s.2)
def cmpSel (a b : Int × Int) : Int := orF [cmpI (sspan a).1 (sspan b).1, cmpI (sspan a).2 (sspan b).2]
def cmpE (a b : Int × Int × ByteArray) : Int := orF [cmpI a.1 b.1, cmpI a.2.1 b.2.1]
def lenW (p : Int × Int) : Int := IntKind.i64.wrap (p.2 - p.1)
theorem tn (m i : Nat) : ((m : Int) - (i : Int)).toNat = m - i := by omega
theorem tn2 (m j i : Nat) : ((m : Int) + (j : Int) - (i : Int)).toNat = m + j - i := by omega
set_option maxRecDepth 100000 in
theorem refLess_c (p q : Int × Int) (w : World) : Calls Try.prog 30 #[spanV p, spanV q] w (fun e w' => e = .returned (.bool (lessB p q)) ∧ Ext none' w w') := by
  refine enter (n := 24) Try.func30 rfl rfl (Nat.le_of_ble_eq_true rfl) ?_
  intro a0 τ0 ha st0
  have e0 : get a0 0 = (.agg #[(.int .i64 (p.1)), (.int .i64 (p.2))]) := ha 0 _ rfl
  have e1 : get a0 1 = (.agg #[(.int .i64 (q.1)), (.int .i64 (q.2))]) := ha 1 _ rfl
  clear ha
  refine wp_seq ?_
  refine region_St (bf := [0, 0, 0]) (sp := [
      (box 39 (Nw w) 0 2 [(.int .i64 (p.1)), (.int .i64 (p.2))]),
        (box 39 (Nw w) 1 3 [(.int .i64 (q.1)), (.int .i64 (q.2))]),
        (det (Nw w) 4 (.bool (false)))])
    [] mixed st0 (by kernel_rfl) trivial
    ⟨Ob.box (v := (.agg #[(.int .i64 (p.1)), (.int .i64 (p.2))])) rfl rfl rfl rfl rfl (fun _ _ _ _ c => (c.eo e0 (by kernel_rfl))),
       Ob.box (v := (.agg #[(.int .i64 (q.1)), (.int .i64 (q.2))])) rfl rfl rfl rfl rfl (fun _ _ _ _ c => (c.eo e1 (by kernel_rfl))),
       Ob.det rfl rfl rfl (fun _ a_ _ _ c => r_assign rfl rfl),
     trivial⟩ ?_
  intro a1 w1 τ1 st1 f1
  obtain ⟨b1x2, e2⟩ : ∃ b, get a1 2 = b := ⟨_, rfl⟩
  obtain ⟨b1x3, e3⟩ : ∃ b, get a1 3 = b := ⟨_, rfl⟩
  have e4 : get a1 4 = (.bool (false)) := f1.v 2 rfl
  have r0 : boxR 39 [(.int .i64 (p.1)), (.int .i64 (p.2))] (τ1 0) b1x2 w1 := f1.rbox 0 rfl rfl e2
  have r1 : boxR 39 [(.int .i64 (q.1)), (.int .i64 (q.2))] (τ1 1) b1x3 w1 := f1.rbox 1 rfl rfl e3
  clear f1
  show Code.wp _ _ _ a1 w1
  refine wp_seq ?_
  refine region_St (bf := [0, 1, 0, 4, 15, 31, 63, 127, 63, 319, 1023, 2047, 4095, 8191, 4095, 20479, 65535, 131071, 262143, 524287]) (sp := [
      (det (Nw w) 5 (.pointer (some ((ptrOf b1x2).add 0)))),
        (det (Nw w) 6 (.int .i64 (p.1))),
        (det (Nw w) 7 (.pointer (some ((ptrOf b1x3).add 0)))),
        (det (Nw w) 8 (.int .i64 (q.1))),
        (det (Nw w) 9 (.bool (decide (p.1 < q.1)))),
        (det (Nw w) 10 (.bool (decide (p.1 < q.1)))),
        (gdet (Nw w) 11 ((decide (p.1 < q.1)) = false) (.pointer (some ((ptrOf b1x2).add 0)))),
        (gdet (Nw w) 12 ((decide (p.1 < q.1)) = false) (.int .i64 (p.1))),
        (gdet (Nw w) 13 ((decide (p.1 < q.1)) = false) (.pointer (some ((ptrOf b1x3).add 0)))),
        (gdet (Nw w) 14 ((decide (p.1 < q.1)) = false) (.int .i64 (q.1))),
        (gdet (Nw w) 15 ((decide (p.1 < q.1)) = false) (.bool (decide (p.1 = q.1)))),
        (gdet (Nw w) 16 ((decide (p.1 < q.1)) = false) (.bool (decide (p.1 = q.1)))),
        (gdet (Nw w) 17 (((decide (p.1 < q.1)) = false) ∧ (decide (p.1 = q.1)) = true) (.pointer (some ((ptrOf b1x2).add 1)))),
        (gdet (Nw w) 18 (((decide (p.1 < q.1)) = false) ∧ (decide (p.1 = q.1)) = true) (.int .i64 (p.2))),
        (gdet (Nw w) 19 (((decide (p.1 < q.1)) = false) ∧ (decide (p.1 = q.1)) = true) (.pointer (some ((ptrOf b1x3).add 1)))),
        (gdet (Nw w) 20 (((decide (p.1 < q.1)) = false) ∧ (decide (p.1 = q.1)) = true) (.int .i64 (q.2))),
        (gdet (Nw w) 21 (((decide (p.1 < q.1)) = false) ∧ (decide (p.1 = q.1)) = true) (.bool (decide (p.2 < q.2)))),
        (gdet (Nw w) 22 ((decide (p.1 < q.1)) = false) (.bool ((decide (p.1 = q.1)) && (decide (p.2 < q.2))))),
        (det (Nw w) 23 (.bool ((decide (p.1 < q.1)) || ((decide (p.1 = q.1)) && (decide (p.2 < q.2)))))),
        (det (Nw w) 4 (.bool ((decide (p.1 < q.1)) || ((decide (p.1 = q.1)) && (decide (p.2 < q.2))))))])
    [(ibox 39 (Nw w) b1x2 [(.int .i64 (p.1)), (.int .i64 (p.2))]), (ibox 39 (Nw w) b1x3 [(.int .i64 (q.1)), (.int .i64 (q.2))])] mixed st1 (by kernel_rfl) ⟨r0, r1, trivial⟩
    ⟨Ob.det rfl rfl rfl (fun _ a_ _ _ c => r_fieldAddr rfl Try.underlying39 rfl rfl Try.sizeOf3 ((c.eo e2 (by kernel_rfl)).trans r0.ptr)),
       Ob.det rfl rfl rfl (fun _ a_ _ _ c => r_load1 rfl Try.isAgg3 (c.ev 0 rfl rfl) ((c.ibox 0 rfl rfl (by kernel_rfl)).cell (j := 0) rfl)),
       Ob.det rfl rfl rfl (fun _ a_ _ _ c => r_fieldAddr rfl Try.underlying39 rfl rfl Try.sizeOf3 ((c.eo e3 (by kernel_rfl)).trans r1.ptr)),
       Ob.det rfl rfl rfl (fun _ a_ _ _ c => r_load1 rfl Try.isAgg3 (c.ev 2 rfl rfl) ((c.ibox 1 rfl rfl (by kernel_rfl)).cell (j := 0) rfl)),
       Ob.det rfl rfl rfl (fun _ a_ _ _ c => r_lss rfl (c.ev 1 rfl rfl) (c.ev 3 rfl rfl)),
       Ob.det rfl rfl rfl (fun _ a_ _ _ c => r_move rfl (c.ev 4 rfl rfl)),
       Ob.gdet rfl rfl rfl rfl (gi := 5) (tg := 10) rfl rfl Iff.rfl (fun _ a_ _ _ c hpc => r_fieldAddr rfl Try.underlying39 rfl rfl Try.sizeOf3 ((c.eo e2 (by kernel_rfl)).trans r0.ptr)),
       Ob.gdet rfl rfl rfl rfl (gi := 5) (tg := 10) rfl rfl Iff.rfl (fun _ a_ _ _ c hpc => r_load1 rfl Try.isAgg3 (c.eg 6 rfl rfl hpc) ((c.ibox 0 rfl rfl (by kernel_rfl)).cell (j := 0) rfl)),
       Ob.gdet rfl rfl rfl rfl (gi := 5) (tg := 10) rfl rfl Iff.rfl (fun _ a_ _ _ c hpc => r_fieldAddr rfl Try.underlying39 rfl rfl Try.sizeOf3 ((c.eo e3 (by kernel_rfl)).trans r1.ptr)),
       Ob.gdet rfl rfl rfl rfl (gi := 5) (tg := 10) rfl rfl Iff.rfl (fun _ a_ _ _ c hpc => r_load1 rfl Try.isAgg3 (c.eg 8 rfl rfl hpc) ((c.ibox 1 rfl rfl (by kernel_rfl)).cell (j := 0) rfl)),
       Ob.gdet rfl rfl rfl rfl (gi := 5) (tg := 10) rfl rfl Iff.rfl (fun _ a_ _ _ c hpc => r_eql rfl (c.eg 7 rfl rfl hpc) (c.eg 9 rfl rfl hpc)),
       Ob.gdet rfl rfl rfl rfl (gi := 5) (tg := 10) rfl rfl Iff.rfl (fun _ a_ _ _ c hpc => r_move rfl (c.eg 10 rfl rfl hpc)),
       Ob.ggdet rfl rfl rfl rfl (gi := 11) (tg := 16) rfl rfl Iff.rfl (fun _ a_ _ _ c hpc => r_fieldAddr rfl Try.underlying39 rfl rfl Try.sizeOf3 ((c.eo e2 (by kernel_rfl)).trans r0.ptr)),
       Ob.ggdet rfl rfl rfl rfl (gi := 11) (tg := 16) rfl rfl Iff.rfl (fun _ a_ _ _ c hpc => r_load1 rfl Try.isAgg3 (c.eg 12 rfl rfl hpc) ((c.ibox 0 rfl rfl (by kernel_rfl)).cell (j := 1) rfl)),
       Ob.ggdet rfl rfl rfl rfl (gi := 11) (tg := 16) rfl rfl Iff.rfl (fun _ a_ _ _ c hpc => r_fieldAddr rfl Try.underlying39 rfl rfl Try.sizeOf3 ((c.eo e3 (by kernel_rfl)).trans r1.ptr)),
       Ob.ggdet rfl rfl rfl rfl (gi := 11) (tg := 16) rfl rfl Iff.rfl (fun _ a_ _ _ c hpc => r_load1 rfl Try.isAgg3 (c.eg 14 rfl rfl hpc) ((c.ibox 1 rfl rfl (by kernel_rfl)).cell (j := 1) rfl)),
       Ob.ggdet rfl rfl rfl rfl (gi := 11) (tg := 16) rfl rfl Iff.rfl (fun _ a_ _ _ c hpc => r_lss rfl (c.eg 13 rfl rfl hpc) (c.eg 15 rfl rfl hpc)),
       Ob.gdet rfl rfl rfl rfl (gi := 5) (tg := 10) rfl rfl Iff.rfl (fun _ a_ _ _ c hpc => r_and rfl (c.eg 11 rfl rfl hpc) (fun h => (c.eg 16 rfl rfl ⟨hpc, h⟩))),
       Ob.det rfl rfl rfl (fun _ a_ _ _ c => r_or rfl (c.ev 5 rfl rfl) (fun h => (c.eg 17 rfl rfl h))),
       Ob.det rfl rfl rfl (fun _ a_ _ _ c => r_assign rfl (c.ev 18 rfl rfl)),
     trivial⟩ ?_
  intro a2 w2 τ2 st2 f2
  have e4 : get a2 4 = (.bool ((decide (p.1 < q.1)) || ((decide (p.1 = q.1)) && (decide (p.2 < q.2))))) := f2.v 19 rfl
  clear f2
  show Code.wp _ _ _ a2 w2
  refine wp_ret ?_
  repeat (first | with_reducible refine then_ret ?_ | with_reducible refine block_ret ?_)
  refine ret1 (fn := Try.f30) rfl st2.defers e4 ?_
  exact ⟨rfl, st2.ext0⟩

set_option maxRecDepth 100000 in
theorem refTouch_c (p q : Int × Int) (w : World) : Calls Try.prog 31 #[spanV p, spanV q] w (fun e w' => e = .returned (.bool (touchB p q)) ∧ Ext none' w w') := by
  refine enter (n := 16) Try.func31 rfl rfl (Nat.le_of_ble_eq_true rfl) ?_
  intro a0 τ0 ha st0
  have e0 : get a0 0 = (.agg #[(.int .i64 (p.1)), (.int .i64 (p.2))]) := ha 0 _ rfl
  have e1 : get a0 1 = (.agg #[(.int .i64 (q.1)), (.int .i64 (q.2))]) := ha 1 _ rfl
  clear ha
  refine wp_seq ?_
  refine region_St (bf := [0, 0, 0]) (sp := [
      (box 39 (Nw w) 0 2 [(.int .i64 (p.1)), (.int .i64 (p.2))]),
        (box 39 (Nw w) 1 3 [(.int .i64 (q.1)), (.int .i64 (q.2))]),
        (det (Nw w) 4 (.bool (false)))])
    [] mixed st0 (by kernel_rfl) trivial
    ⟨Ob.box (v := (.agg #[(.int .i64 (p.1)), (.int .i64 (p.2))])) rfl rfl rfl rfl rfl (fun _ _ _ _ c => (c.eo e0 (by kernel_rfl))),
       Ob.box (v := (.agg #[(.int .i64 (q.1)), (.int .i64 (q.2))])) rfl rfl rfl rfl rfl (fun _ _ _ _ c => (c.eo e1 (by kernel_rfl))),
       Ob.det rfl rfl rfl (fun _ a_ _ _ c => r_assign rfl rfl),
     trivial⟩ ?_
  intro a1 w1 τ1 st1 f1
  obtain ⟨b1x2, e2⟩ : ∃ b, get a1 2 = b := ⟨_, rfl⟩
  obtain ⟨b1x3, e3⟩ : ∃ b, get a1 3 = b := ⟨_, rfl⟩
  have e4 : get a1 4 = (.bool (false)) := f1.v 2 rfl
  have r0 : boxR 39 [(.int .i64 (p.1)), (.int .i64 (p.2))] (τ1 0) b1x2 w1 := f1.rbox 0 rfl rfl e2
  have r1 : boxR 39 [(.int .i64 (q.1)), (.int .i64 (q.2))] (τ1 1) b1x3 w1 := f1.rbox 1 rfl rfl e3
  clear f1
  show Code.wp _ _ _ a1 w1
  refine wp_seq ?_
  refine region_St (bf := [0, 1, 0, 4, 15, 0, 32, 0, 128, 480, 1023, 2047]) (sp := [
      (det (Nw w) 5 (.pointer (some ((ptrOf b1x2).add 0)))),
        (det (Nw w) 6 (.int .i64 (p.1))),
        (det (Nw w) 7 (.pointer (some ((ptrOf b1x3).add 0)))),
        (det (Nw w) 8 (.int .i64 (q.1))),
        (det (Nw w) 9 (.int .i64 (max p.1 q.1))),
        (det (Nw w) 10 (.pointer (some ((ptrOf b1x2).add 1)))),
        (det (Nw w) 11 (.int .i64 (p.2))),
        (det (Nw w) 12 (.pointer (some ((ptrOf b1x3).add 1)))),
        (det (Nw w) 13 (.int .i64 (q.2))),
        (det (Nw w) 14 (.int .i64 (min p.2 q.2))),
        (det (Nw w) 15 (.bool (decide (max p.1 q.1 ≤ min p.2 q.2)))),
        (det (Nw w) 4 (.bool (decide (max p.1 q.1 ≤ min p.2 q.2))))])
    [(ibox 39 (Nw w) b1x2 [(.int .i64 (p.1)), (.int .i64 (p.2))]), (ibox 39 (Nw w) b1x3 [(.int .i64 (q.1)), (.int .i64 (q.2))])] mixed st1 (by kernel_rfl) ⟨r0, r1, trivial⟩
    ⟨Ob.det rfl rfl rfl (fun _ a_ _ _ c => r_fieldAddr rfl Try.underlying39 rfl rfl Try.sizeOf3 ((c.eo e2 (by kernel_rfl)).trans r0.ptr)),
       Ob.det rfl rfl rfl (fun _ a_ _ _ c => r_load1 rfl Try.isAgg3 (c.ev 0 rfl rfl) ((c.ibox 0 rfl rfl (by kernel_rfl)).cell (j := 0) rfl)),
       Ob.det rfl rfl rfl (fun _ a_ _ _ c => r_fieldAddr rfl Try.underlying39 rfl rfl Try.sizeOf3 ((c.eo e3 (by kernel_rfl)).trans r1.ptr)),
       Ob.det rfl rfl rfl (fun _ a_ _ _ c => r_load1 rfl Try.isAgg3 (c.ev 2 rfl rfl) ((c.ibox 1 rfl rfl (by kernel_rfl)).cell (j := 0) rfl)),
       Ob.det rfl rfl rfl (fun _ a_ _ _ c => r_max rfl (c.ev 1 rfl rfl) (c.ev 3 rfl rfl)),
       Ob.det rfl rfl rfl (fun _ a_ _ _ c => r_fieldAddr rfl Try.underlying39 rfl rfl Try.sizeOf3 ((c.eo e2 (by kernel_rfl)).trans r0.ptr)),
       Ob.det rfl rfl rfl (fun _ a_ _ _ c => r_load1 rfl Try.isAgg3 (c.ev 5 rfl rfl) ((c.ibox 0 rfl rfl (by kernel_rfl)).cell (j := 1) rfl)),
       Ob.det rfl rfl rfl (fun _ a_ _ _ c => r_fieldAddr rfl Try.underlying39 rfl rfl Try.sizeOf3 ((c.eo e3 (by kernel_rfl)).trans r1.ptr)),
       Ob.det rfl rfl rfl (fun _ a_ _ _ c => r_load1 rfl Try.isAgg3 (c.ev 7 rfl rfl) ((c.ibox 1 rfl rfl (by kernel_rfl)).cell (j := 1) rfl)),
       Ob.det rfl rfl rfl (fun _ a_ _ _ c => r_min rfl (c.ev 6 rfl rfl) (c.ev 8 rfl rfl)),
       Ob.det rfl rfl rfl (fun _ a_ _ _ c => r_leq rfl (c.ev 4 rfl rfl) (c.ev 9 rfl rfl)),
       Ob.det rfl rfl rfl (fun _ a_ _ _ c => r_assign rfl (c.ev 10 rfl rfl)),
     trivial⟩ ?_
  intro a2 w2 τ2 st2 f2
  have e4 : get a2 4 = (.bool (decide (max p.1 q.1 ≤ min p.2 q.2))) := f2.v 11 rfl
  clear f2
  show Code.wp _ _ _ a2 w2
  refine wp_ret ?_
  repeat (first | with_reducible refine then_ret ?_ | with_reducible refine block_ret ?_)
  refine ret1 (fn := Try.f31) rfl st2.defers e4 ?_
  exact ⟨rfl, st2.ext0⟩

set_option maxRecDepth 100000 in
theorem touch_c (p q : Int × Int) (w : World) : Calls Try.prog 29 #[spanV p, spanV q] w (fun e w' => e = .returned (.bool (touchB p q)) ∧ Ext none' w w') := by
  refine enter (n := 16) Try.func29 rfl rfl (Nat.le_of_ble_eq_true rfl) ?_
  intro a0 τ0 ha st0
  have e0 : get a0 0 = (.agg #[(.int .i64 (p.1)), (.int .i64 (p.2))]) := ha 0 _ rfl
  have e1 : get a0 1 = (.agg #[(.int .i64 (q.1)), (.int .i64 (q.2))]) := ha 1 _ rfl
  clear ha
  refine wp_seq ?_
  refine region_St (bf := [0, 0, 0]) (sp := [
      (box 39 (Nw w) 0 2 [(.int .i64 (p.1)), (.int .i64 (p.2))]),
        (box 39 (Nw w) 1 3 [(.int .i64 (q.1)), (.int .i64 (q.2))]),
        (det (Nw w) 4 (.bool (false)))])
    [] mixed st0 (by kernel_rfl) trivial
    ⟨Ob.box (v := (.agg #[(.int .i64 (p.1)), (.int .i64 (p.2))])) rfl rfl rfl rfl rfl (fun _ _ _ _ c => (c.eo e0 (by kernel_rfl))),
       Ob.box (v := (.agg #[(.int .i64 (q.1)), (.int .i64 (q.2))])) rfl rfl rfl rfl rfl (fun _ _ _ _ c => (c.eo e1 (by kernel_rfl))),
       Ob.det rfl rfl rfl (fun _ a_ _ _ c => r_assign rfl rfl),
     trivial⟩ ?_
  intro a1 w1 τ1 st1 f1
  obtain ⟨b1x2, e2⟩ : ∃ b, get a1 2 = b := ⟨_, rfl⟩
  obtain ⟨b1x3, e3⟩ : ∃ b, get a1 3 = b := ⟨_, rfl⟩
  have e4 : get a1 4 = (.bool (false)) := f1.v 2 rfl
  have r0 : boxR 39 [(.int .i64 (p.1)), (.int .i64 (p.2))] (τ1 0) b1x2 w1 := f1.rbox 0 rfl rfl e2
  have r1 : boxR 39 [(.int .i64 (q.1)), (.int .i64 (q.2))] (τ1 1) b1x3 w1 := f1.rbox 1 rfl rfl e3
  clear f1
  show Code.wp _ _ _ a1 w1
  refine wp_seq ?_
  refine region_St (bf := [0, 1, 0, 4, 15, 0, 32, 0, 128, 480, 1023, 2047]) (sp := [
      (det (Nw w) 5 (.pointer (some ((ptrOf b1x2).add 0)))),
        (det (Nw w) 6 (.int .i64 (p.1))),
        (det (Nw w) 7 (.pointer (some ((ptrOf b1x3).add 0)))),
        (det (Nw w) 8 (.int .i64 (q.1))),
        (det (Nw w) 9 (.int .i64 (max p.1 q.1))),
        (det (Nw w) 10 (.pointer (some ((ptrOf b1x2).add 1)))),
        (det (Nw w) 11 (.int .i64 (p.2))),
        (det (Nw w) 12 (.pointer (some ((ptrOf b1x3).add 1)))),
        (det (Nw w) 13 (.int .i64 (q.2))),
        (det (Nw w) 14 (.int .i64 (min p.2 q.2))),
        (det (Nw w) 15 (.bool (decide (max p.1 q.1 ≤ min p.2 q.2)))),
        (det (Nw w) 4 (.bool (decide (max p.1 q.1 ≤ min p.2 q.2))))])
    [(ibox 39 (Nw w) b1x2 [(.int .i64 (p.1)), (.int .i64 (p.2))]), (ibox 39 (Nw w) b1x3 [(.int .i64 (q.1)), (.int .i64 (q.2))])] mixed st1 (by kernel_rfl) ⟨r0, r1, trivial⟩
    ⟨Ob.det rfl rfl rfl (fun _ a_ _ _ c => r_fieldAddr rfl Try.underlying39 rfl rfl Try.sizeOf3 ((c.eo e2 (by kernel_rfl)).trans r0.ptr)),
       Ob.det rfl rfl rfl (fun _ a_ _ _ c => r_load1 rfl Try.isAgg3 (c.ev 0 rfl rfl) ((c.ibox 0 rfl rfl (by kernel_rfl)).cell (j := 0) rfl)),
       Ob.det rfl rfl rfl (fun _ a_ _ _ c => r_fieldAddr rfl Try.underlying39 rfl rfl Try.sizeOf3 ((c.eo e3 (by kernel_rfl)).trans r1.ptr)),
       Ob.det rfl rfl rfl (fun _ a_ _ _ c => r_load1 rfl Try.isAgg3 (c.ev 2 rfl rfl) ((c.ibox 1 rfl rfl (by kernel_rfl)).cell (j := 0) rfl)),
       Ob.det rfl rfl rfl (fun _ a_ _ _ c => r_max rfl (c.ev 1 rfl rfl) (c.ev 3 rfl rfl)),
       Ob.det rfl rfl rfl (fun _ a_ _ _ c => r_fieldAddr rfl Try.underlying39 rfl rfl Try.sizeOf3 ((c.eo e2 (by kernel_rfl)).trans r0.ptr)),
       Ob.det rfl rfl rfl (fun _ a_ _ _ c => r_load1 rfl Try.isAgg3 (c.ev 5 rfl rfl) ((c.ibox 0 rfl rfl (by kernel_rfl)).cell (j := 1) rfl)),
       Ob.det rfl rfl rfl (fun _ a_ _ _ c => r_fieldAddr rfl Try.underlying39 rfl rfl Try.sizeOf3 ((c.eo e3 (by kernel_rfl)).trans r1.ptr)),
       Ob.det rfl rfl rfl (fun _ a_ _ _ c => r_load1 rfl Try.isAgg3 (c.ev 7 rfl rfl) ((c.ibox 1 rfl rfl (by kernel_rfl)).cell (j := 1) rfl)),
       Ob.det rfl rfl rfl (fun _ a_ _ _ c => r_min rfl (c.ev 6 rfl rfl) (c.ev 8 rfl rfl)),
       Ob.det rfl rfl rfl (fun _ a_ _ _ c => r_leq rfl (c.ev 4 rfl rfl) (c.ev 9 rfl rfl)),
       Ob.det rfl rfl rfl (fun _ a_ _ _ c => r_assign rfl (c.ev 10 rfl rfl)),
     trivial⟩ ?_
  intro a2 w2 τ2 st2 f2
  have e4 : get a2 4 = (.bool (decide (max p.1 q.1 ≤ min p.2 q.2))) := f2.v 11 rfl
  clear f2
  show Code.wp _ _ _ a2 w2
  refine wp_ret ?_
  repeat (first | with_reducible refine then_ret ?_ | with_reducible refine block_ret ?_)
  refine ret1 (fn := Try.f29) rfl st2.defers e4 ?_
  exact ⟨rfl, st2.ext0⟩

set_option maxRecDepth 100000 in
theorem has_c (p : Int × Int) (n : Int) (w : World) : Calls Try.prog 17 #[spanV p, .int .i64 n] w (fun e w' => e = .returned (.bool (hasB p n)) ∧ Ext none' w w') := by
  refine enter (n := 15) Try.func17 rfl rfl (Nat.le_of_ble_eq_true rfl) ?_
  intro a0 τ0 ha st0
  have e0 : get a0 0 = (.agg #[(.int .i64 (p.1)), (.int .i64 (p.2))]) := ha 0 _ rfl
  have e1 : get a0 1 = (.int .i64 (n)) := ha 1 _ rfl
  clear ha
  refine wp_seq ?_
  refine region_St (bf := [0, 0]) (sp := [
      (box 39 (Nw w) 0 2 [(.int .i64 (p.1)), (.int .i64 (p.2))]),
        (det (Nw w) 4 (.bool (false)))])
    [] mixed st0 (by kernel_rfl) trivial
    ⟨Ob.box (v := (.agg #[(.int .i64 (p.1)), (.int .i64 (p.2))])) rfl rfl rfl rfl rfl (fun _ _ _ _ c => (c.eo e0 (by kernel_rfl))),
       Ob.det rfl rfl rfl (fun _ a_ _ _ c => r_assign rfl rfl),
     trivial⟩ ?_
  intro a1 w1 τ1 st1 f1
  obtain ⟨b1x2, e2⟩ : ∃ b, get a1 2 = b := ⟨_, rfl⟩
  replace e1 := f1.old e1 (by kernel_rfl)
  have e4 : get a1 4 = (.bool (false)) := f1.v 1 rfl
  have r0 : boxR 39 [(.int .i64 (p.1)), (.int .i64 (p.2))] (τ1 0) b1x2 w1 := f1.rbox 0 rfl rfl e2
  clear f1
  show Code.wp _ _ _ a1 w1
  refine wp_seq ?_
  refine region_St (bf := [0, 1, 0, 7, 15, 31, 31, 95, 255, 511, 1023]) (sp := [
      (det (Nw w) 5 (.pointer (some ((ptrOf b1x2).add 0)))),
        (det (Nw w) 6 (.int .i64 (p.1))),
        (det (Nw w) 7 (.int .i64 (n))),
        (det (Nw w) 8 (.bool (decide (p.1 ≤ n)))),
        (det (Nw w) 9 (.bool (decide (p.1 ≤ n)))),
        (gdet (Nw w) 10 ((decide (p.1 ≤ n)) = true) (.int .i64 (n))),
        (gdet (Nw w) 11 ((decide (p.1 ≤ n)) = true) (.pointer (some ((ptrOf b1x2).add 1)))),
        (gdet (Nw w) 12 ((decide (p.1 ≤ n)) = true) (.int .i64 (p.2))),
        (gdet (Nw w) 13 ((decide (p.1 ≤ n)) = true) (.bool (decide (n ≤ p.2)))),
        (det (Nw w) 14 (.bool ((decide (p.1 ≤ n)) && (decide (n ≤ p.2))))),
        (det (Nw w) 4 (.bool ((decide (p.1 ≤ n)) && (decide (n ≤ p.2)))))])
    [(ibox 39 (Nw w) b1x2 [(.int .i64 (p.1)), (.int .i64 (p.2))])] mixed st1 (by kernel_rfl) ⟨r0, trivial⟩
    ⟨Ob.det rfl rfl rfl (fun _ a_ _ _ c => r_fieldAddr rfl Try.underlying39 rfl rfl Try.sizeOf3 ((c.eo e2 (by kernel_rfl)).trans r0.ptr)),
       Ob.det rfl rfl rfl (fun _ a_ _ _ c => r_load1 rfl Try.isAgg3 (c.ev 0 rfl rfl) ((c.ibox 0 rfl rfl (by kernel_rfl)).cell (j := 0) rfl)),
       Ob.det rfl rfl rfl (fun _ a_ _ _ c => r_move rfl (c.eo e1 (by kernel_rfl))),
       Ob.det rfl rfl rfl (fun _ a_ _ _ c => r_leq rfl (c.ev 1 rfl rfl) (c.ev 2 rfl rfl)),
       Ob.det rfl rfl rfl (fun _ a_ _ _ c => r_move rfl (c.ev 3 rfl rfl)),
       Ob.gdet rfl rfl rfl rfl (gi := 4) (tg := 9) rfl rfl Iff.rfl (fun _ a_ _ _ c hpc => r_move rfl (c.eo e1 (by kernel_rfl))),
       Ob.gdet rfl rfl rfl rfl (gi := 4) (tg := 9) rfl rfl Iff.rfl (fun _ a_ _ _ c hpc => r_fieldAddr rfl Try.underlying39 rfl rfl Try.sizeOf3 ((c.eo e2 (by kernel_rfl)).trans r0.ptr)),
       Ob.gdet rfl rfl rfl rfl (gi := 4) (tg := 9) rfl rfl Iff.rfl (fun _ a_ _ _ c hpc => r_load1 rfl Try.isAgg3 (c.eg 6 rfl rfl hpc) ((c.ibox 0 rfl rfl (by kernel_rfl)).cell (j := 1) rfl)),
       Ob.gdet rfl rfl rfl rfl (gi := 4) (tg := 9) rfl rfl Iff.rfl (fun _ a_ _ _ c hpc => r_leq rfl (c.eg 5 rfl rfl hpc) (c.eg 7 rfl rfl hpc)),
       Ob.det rfl rfl rfl (fun _ a_ _ _ c => r_and rfl (c.ev 4 rfl rfl) (fun h => (c.eg 8 rfl rfl h))),
       Ob.det rfl rfl rfl (fun _ a_ _ _ c => r_assign rfl (c.ev 9 rfl rfl)),
     trivial⟩ ?_
  intro a2 w2 τ2 st2 f2
  have e4 : get a2 4 = (.bool ((decide (p.1 ≤ n)) && (decide (n ≤ p.2)))) := f2.v 10 rfl
  clear f2
  show Code.wp _ _ _ a2 w2
  refine wp_ret ?_
  repeat (first | with_reducible refine then_ret ?_ | with_reducible refine block_ret ?_)
  refine ret1 (fn := Try.f17) rfl st2.defers e4 ?_
  exact ⟨rfl, st2.ext0⟩

set_option maxRecDepth 100000 in
theorem may_c (p : Int × Int) (n : Int) (w : World) : Calls Try.prog 18 #[spanV p, .int .i64 n] w (fun e w' => e = .returned (.bool (mayB p n)) ∧ Ext none' w w') := by
  refine enter (n := 21) Try.func18 rfl rfl (Nat.le_of_ble_eq_true rfl) ?_
  intro a0 τ0 ha st0
  have e0 : get a0 0 = (.agg #[(.int .i64 (p.1)), (.int .i64 (p.2))]) := ha 0 _ rfl
  have e1 : get a0 1 = (.int .i64 (n)) := ha 1 _ rfl
  clear ha
  refine wp_seq ?_
  refine region_St (bf := [0, 0]) (sp := [
      (box 39 (Nw w) 0 2 [(.int .i64 (p.1)), (.int .i64 (p.2))]),
        (det (Nw w) 4 (.bool (false)))])
    [] mixed st0 (by kernel_rfl) trivial
    ⟨Ob.box (v := (.agg #[(.int .i64 (p.1)), (.int .i64 (p.2))])) rfl rfl rfl rfl rfl (fun _ _ _ _ c => (c.eo e0 (by kernel_rfl))),
       Ob.det rfl rfl rfl (fun _ a_ _ _ c => r_assign rfl rfl),
     trivial⟩ ?_
  intro a1 w1 τ1 st1 f1
  obtain ⟨b1x2, e2⟩ : ∃ b, get a1 2 = b := ⟨_, rfl⟩
  replace e1 := f1.old e1 (by kernel_rfl)
  have e4 : get a1 4 = (.bool (false)) := f1.v 1 rfl
  have r0 : boxR 39 [(.int .i64 (p.1)), (.int .i64 (p.2))] (τ1 0) b1x2 w1 := f1.rbox 0 rfl rfl e2
  clear f1
  show Code.wp _ _ _ a1 w1
  refine wp_seq ?_
  refine region_St (bf := [0, 1, 3, 7, 15, 31, 15, 79, 255, 511, 1023, 2047, 4095, 2047, 16383, 32767, 65535]) (sp := [
      (det (Nw w) 5 (.pointer (some ((ptrOf b1x2).add 0)))),
        (det (Nw w) 6 (.int .i64 (p.1))),
        (det (Nw w) 7 (.bool (decide (0 ≤ p.1)))),
        (det (Nw w) 8 (.bool (decide (0 ≤ p.1)))),
        (gdet (Nw w) 9 ((decide (0 ≤ p.1)) = true) (.pointer (some ((ptrOf b1x2).add 0)))),
        (gdet (Nw w) 10 ((decide (0 ≤ p.1)) = true) (.int .i64 (p.1))),
        (gdet (Nw w) 11 ((decide (0 ≤ p.1)) = true) (.pointer (some ((ptrOf b1x2).add 1)))),
        (gdet (Nw w) 12 ((decide (0 ≤ p.1)) = true) (.int .i64 (p.2))),
        (gdet (Nw w) 13 ((decide (0 ≤ p.1)) = true) (.bool (decide (p.1 ≤ p.2)))),
        (det (Nw w) 14 (.bool ((decide (0 ≤ p.1)) && (decide (p.1 ≤ p.2))))),
        (det (Nw w) 15 (.bool ((decide (0 ≤ p.1)) && (decide (p.1 ≤ p.2))))),
        (gdet (Nw w) 16 (((decide (0 ≤ p.1)) && (decide (p.1 ≤ p.2))) = true) (.pointer (some ((ptrOf b1x2).add 1)))),
        (gdet (Nw w) 17 (((decide (0 ≤ p.1)) && (decide (p.1 ≤ p.2))) = true) (.int .i64 (p.2))),
        (gdet (Nw w) 18 (((decide (0 ≤ p.1)) && (decide (p.1 ≤ p.2))) = true) (.int .i64 (n))),
        (gdet (Nw w) 19 (((decide (0 ≤ p.1)) && (decide (p.1 ≤ p.2))) = true) (.bool (decide (p.2 ≤ n)))),
        (det (Nw w) 20 (.bool (((decide (0 ≤ p.1)) && (decide (p.1 ≤ p.2))) && (decide (p.2 ≤ n))))),
        (det (Nw w) 4 (.bool (((decide (0 ≤ p.1)) && (decide (p.1 ≤ p.2))) && (decide (p.2 ≤ n)))))])
    [(ibox 39 (Nw w) b1x2 [(.int .i64 (p.1)), (.int .i64 (p.2))])] mixed st1 (by kernel_rfl) ⟨r0, trivial⟩
    ⟨Ob.det rfl rfl rfl (fun _ a_ _ _ c => r_fieldAddr rfl Try.underlying39 rfl rfl Try.sizeOf3 ((c.eo e2 (by kernel_rfl)).trans r0.ptr)),
       Ob.det rfl rfl rfl (fun _ a_ _ _ c => r_load1 rfl Try.isAgg3 (c.ev 0 rfl rfl) ((c.ibox 0 rfl rfl (by kernel_rfl)).cell (j := 0) rfl)),
       Ob.det rfl rfl rfl (fun _ a_ _ _ c => r_geq rfl (c.ev 1 rfl rfl) rfl),
       Ob.det rfl rfl rfl (fun _ a_ _ _ c => r_move rfl (c.ev 2 rfl rfl)),
       Ob.gdet rfl rfl rfl rfl (gi := 3) (tg := 8) rfl rfl Iff.rfl (fun _ a_ _ _ c hpc => r_fieldAddr rfl Try.underlying39 rfl rfl Try.sizeOf3 ((c.eo e2 (by kernel_rfl)).trans r0.ptr)),
       Ob.gdet rfl rfl rfl rfl (gi := 3) (tg := 8) rfl rfl Iff.rfl (fun _ a_ _ _ c hpc => r_load1 rfl Try.isAgg3 (c.eg 4 rfl rfl hpc) ((c.ibox 0 rfl rfl (by kernel_rfl)).cell (j := 0) rfl)),
       Ob.gdet rfl rfl rfl rfl (gi := 3) (tg := 8) rfl rfl Iff.rfl (fun _ a_ _ _ c hpc => r_fieldAddr rfl Try.underlying39 rfl rfl Try.sizeOf3 ((c.eo e2 (by kernel_rfl)).trans r0.ptr)),
       Ob.gdet rfl rfl rfl rfl (gi := 3) (tg := 8) rfl rfl Iff.rfl (fun _ a_ _ _ c hpc => r_load1 rfl Try.isAgg3 (c.eg 6 rfl rfl hpc) ((c.ibox 0 rfl rfl (by kernel_rfl)).cell (j := 1) rfl)),
       Ob.gdet rfl rfl rfl rfl (gi := 3) (tg := 8) rfl rfl Iff.rfl (fun _ a_ _ _ c hpc => r_leq rfl (c.eg 5 rfl rfl hpc) (c.eg 7 rfl rfl hpc)),
       Ob.det rfl rfl rfl (fun _ a_ _ _ c => r_and rfl (c.ev 3 rfl rfl) (fun h => (c.eg 8 rfl rfl h))),
       Ob.det rfl rfl rfl (fun _ a_ _ _ c => r_move rfl (c.ev 9 rfl rfl)),
       Ob.gdet rfl rfl rfl rfl (gi := 10) (tg := 15) rfl rfl Iff.rfl (fun _ a_ _ _ c hpc => r_fieldAddr rfl Try.underlying39 rfl rfl Try.sizeOf3 ((c.eo e2 (by kernel_rfl)).trans r0.ptr)),
       Ob.gdet rfl rfl rfl rfl (gi := 10) (tg := 15) rfl rfl Iff.rfl (fun _ a_ _ _ c hpc => r_load1 rfl Try.isAgg3 (c.eg 11 rfl rfl hpc) ((c.ibox 0 rfl rfl (by kernel_rfl)).cell (j := 1) rfl)),
       Ob.gdet rfl rfl rfl rfl (gi := 10) (tg := 15) rfl rfl Iff.rfl (fun _ a_ _ _ c hpc => r_move rfl (c.eo e1 (by kernel_rfl))),
       Ob.gdet rfl rfl rfl rfl (gi := 10) (tg := 15) rfl rfl Iff.rfl (fun _ a_ _ _ c hpc => r_leq rfl (c.eg 12 rfl rfl hpc) (c.eg 13 rfl rfl hpc)),
       Ob.det rfl rfl rfl (fun _ a_ _ _ c => r_and rfl (c.ev 10 rfl rfl) (fun h => (c.eg 14 rfl rfl h))),
       Ob.det rfl rfl rfl (fun _ a_ _ _ c => r_assign rfl (c.ev 15 rfl rfl)),
     trivial⟩ ?_
  intro a2 w2 τ2 st2 f2
  have e4 : get a2 4 = (.bool (((decide (0 ≤ p.1)) && (decide (p.1 ≤ p.2))) && (decide (p.2 ≤ n)))) := f2.v 16 rfl
  clear f2
  show Code.wp _ _ _ a2 w2
  refine wp_ret ?_
  repeat (first | with_reducible refine then_ret ?_ | with_reducible refine block_ret ?_)
  refine ret1 (fn := Try.f18) rfl st2.defers e4 ?_
  exact ⟨rfl, st2.ext0⟩

set_option maxRecDepth 100000 in
theorem refMay_c (p : Int × Int) (n : Int) (w : World) : Calls Try.prog 20 #[spanV p, .int .i64 n] w (fun e w' => e = .returned (.bool (mayB p n)) ∧ Ext none' w w') := by
  refine enter (n := 21) Try.func20 rfl rfl (Nat.le_of_ble_eq_true rfl) ?_
  intro a0 τ0 ha st0
  have e0 : get a0 0 = (.agg #[(.int .i64 (p.1)), (.int .i64 (p.2))]) := ha 0 _ rfl
  have e1 : get a0 1 = (.int .i64 (n)) := ha 1 _ rfl
  clear ha
  refine wp_seq ?_
  refine region_St (bf := [0, 0]) (sp := [
      (box 39 (Nw w) 0 2 [(.int .i64 (p.1)), (.int .i64 (p.2))]),
        (det (Nw w) 4 (.bool (false)))])
    [] mixed st0 (by kernel_rfl) trivial
    ⟨Ob.box (v := (.agg #[(.int .i64 (p.1)), (.int .i64 (p.2))])) rfl rfl rfl rfl rfl (fun _ _ _ _ c => (c.eo e0 (by kernel_rfl))),
       Ob.det rfl rfl rfl (fun _ a_ _ _ c => r_assign rfl rfl),
     trivial⟩ ?_
  intro a1 w1 τ1 st1 f1
  obtain ⟨b1x2, e2⟩ : ∃ b, get a1 2 = b := ⟨_, rfl⟩
  replace e1 := f1.old e1 (by kernel_rfl)
  have e4 : get a1 4 = (.bool (false)) := f1.v 1 rfl
  have r0 : boxR 39 [(.int .i64 (p.1)), (.int .i64 (p.2))] (τ1 0) b1x2 w1 := f1.rbox 0 rfl rfl e2
  clear f1
  show Code.wp _ _ _ a1 w1
  refine wp_seq ?_
  refine region_St (bf := [0, 1, 3, 7, 15, 31, 15, 79, 255, 511, 1023, 2047, 4095, 2047, 16383, 32767, 65535]) (sp := [
      (det (Nw w) 5 (.pointer (some ((ptrOf b1x2).add 0)))),
        (det (Nw w) 6 (.int .i64 (p.1))),
        (det (Nw w) 7 (.bool (decide (0 ≤ p.1)))),
        (det (Nw w) 8 (.bool (decide (0 ≤ p.1)))),
        (gdet (Nw w) 9 ((decide (0 ≤ p.1)) = true) (.pointer (some ((ptrOf b1x2).add 0)))),
        (gdet (Nw w) 10 ((decide (0 ≤ p.1)) = true) (.int .i64 (p.1))),
        (gdet (Nw w) 11 ((decide (0 ≤ p.1)) = true) (.pointer (some ((ptrOf b1x2).add 1)))),
        (gdet (Nw w) 12 ((decide (0 ≤ p.1)) = true) (.int .i64 (p.2))),
        (gdet (Nw w) 13 ((decide (0 ≤ p.1)) = true) (.bool (decide (p.1 ≤ p.2)))),
        (det (Nw w) 14 (.bool ((decide (0 ≤ p.1)) && (decide (p.1 ≤ p.2))))),
        (det (Nw w) 15 (.bool ((decide (0 ≤ p.1)) && (decide (p.1 ≤ p.2))))),
        (gdet (Nw w) 16 (((decide (0 ≤ p.1)) && (decide (p.1 ≤ p.2))) = true) (.pointer (some ((ptrOf b1x2).add 1)))),
        (gdet (Nw w) 17 (((decide (0 ≤ p.1)) && (decide (p.1 ≤ p.2))) = true) (.int .i64 (p.2))),
        (gdet (Nw w) 18 (((decide (0 ≤ p.1)) && (decide (p.1 ≤ p.2))) = true) (.int .i64 (n))),
        (gdet (Nw w) 19 (((decide (0 ≤ p.1)) && (decide (p.1 ≤ p.2))) = true) (.bool (decide (p.2 ≤ n)))),
        (det (Nw w) 20 (.bool (((decide (0 ≤ p.1)) && (decide (p.1 ≤ p.2))) && (decide (p.2 ≤ n))))),
        (det (Nw w) 4 (.bool (((decide (0 ≤ p.1)) && (decide (p.1 ≤ p.2))) && (decide (p.2 ≤ n)))))])
    [(ibox 39 (Nw w) b1x2 [(.int .i64 (p.1)), (.int .i64 (p.2))])] mixed st1 (by kernel_rfl) ⟨r0, trivial⟩
    ⟨Ob.det rfl rfl rfl (fun _ a_ _ _ c => r_fieldAddr rfl Try.underlying39 rfl rfl Try.sizeOf3 ((c.eo e2 (by kernel_rfl)).trans r0.ptr)),
       Ob.det rfl rfl rfl (fun _ a_ _ _ c => r_load1 rfl Try.isAgg3 (c.ev 0 rfl rfl) ((c.ibox 0 rfl rfl (by kernel_rfl)).cell (j := 0) rfl)),
       Ob.det rfl rfl rfl (fun _ a_ _ _ c => r_geq rfl (c.ev 1 rfl rfl) rfl),
       Ob.det rfl rfl rfl (fun _ a_ _ _ c => r_move rfl (c.ev 2 rfl rfl)),
       Ob.gdet rfl rfl rfl rfl (gi := 3) (tg := 8) rfl rfl Iff.rfl (fun _ a_ _ _ c hpc => r_fieldAddr rfl Try.underlying39 rfl rfl Try.sizeOf3 ((c.eo e2 (by kernel_rfl)).trans r0.ptr)),
       Ob.gdet rfl rfl rfl rfl (gi := 3) (tg := 8) rfl rfl Iff.rfl (fun _ a_ _ _ c hpc => r_load1 rfl Try.isAgg3 (c.eg 4 rfl rfl hpc) ((c.ibox 0 rfl rfl (by kernel_rfl)).cell (j := 0) rfl)),
       Ob.gdet rfl rfl rfl rfl (gi := 3) (tg := 8) rfl rfl Iff.rfl (fun _ a_ _ _ c hpc => r_fieldAddr rfl Try.underlying39 rfl rfl Try.sizeOf3 ((c.eo e2 (by kernel_rfl)).trans r0.ptr)),
       Ob.gdet rfl rfl rfl rfl (gi := 3) (tg := 8) rfl rfl Iff.rfl (fun _ a_ _ _ c hpc => r_load1 rfl Try.isAgg3 (c.eg 6 rfl rfl hpc) ((c.ibox 0 rfl rfl (by kernel_rfl)).cell (j := 1) rfl)),
       Ob.gdet rfl rfl rfl rfl (gi := 3) (tg := 8) rfl rfl Iff.rfl (fun _ a_ _ _ c hpc => r_leq rfl (c.eg 5 rfl rfl hpc) (c.eg 7 rfl rfl hpc)),
       Ob.det rfl rfl rfl (fun _ a_ _ _ c => r_and rfl (c.ev 3 rfl rfl) (fun h => (c.eg 8 rfl rfl h))),
       Ob.det rfl rfl rfl (fun _ a_ _ _ c => r_move rfl (c.ev 9 rfl rfl)),
       Ob.gdet rfl rfl rfl rfl (gi := 10) (tg := 15) rfl rfl Iff.rfl (fun _ a_ _ _ c hpc => r_fieldAddr rfl Try.underlying39 rfl rfl Try.sizeOf3 ((c.eo e2 (by kernel_rfl)).trans r0.ptr)),
       Ob.gdet rfl rfl rfl rfl (gi := 10) (tg := 15) rfl rfl Iff.rfl (fun _ a_ _ _ c hpc => r_load1 rfl Try.isAgg3 (c.eg 11 rfl rfl hpc) ((c.ibox 0 rfl rfl (by kernel_rfl)).cell (j := 1) rfl)),
       Ob.gdet rfl rfl rfl rfl (gi := 10) (tg := 15) rfl rfl Iff.rfl (fun _ a_ _ _ c hpc => r_move rfl (c.eo e1 (by kernel_rfl))),
       Ob.gdet rfl rfl rfl rfl (gi := 10) (tg := 15) rfl rfl Iff.rfl (fun _ a_ _ _ c hpc => r_leq rfl (c.eg 12 rfl rfl hpc) (c.eg 13 rfl rfl hpc)),
       Ob.det rfl rfl rfl (fun _ a_ _ _ c => r_and rfl (c.ev 10 rfl rfl) (fun h => (c.eg 14 rfl rfl h))),
       Ob.det rfl rfl rfl (fun _ a_ _ _ c => r_assign rfl (c.ev 15 rfl rfl)),
     trivial⟩ ?_
  intro a2 w2 τ2 st2 f2
  have e4 : get a2 4 = (.bool (((decide (0 ≤ p.1)) && (decide (p.1 ≤ p.2))) && (decide (p.2 ≤ n)))) := f2.v 16 rfl
  clear f2
  show Code.wp _ _ _ a2 w2
  refine wp_ret ?_
  repeat (first | with_reducible refine then_ret ?_ | with_reducible refine block_ret ?_)
  refine ret1 (fn := Try.f20) rfl st2.defers e4 ?_
  exact ⟨rfl, st2.ext0⟩

set_option maxRecDepth 100000 in
theorem isNaN_c (x : Int) (w : World) : Calls Try.prog 37 #[.int .i64 x] w (fun e w' => e = .returned (.bool (false)) ∧ Ext none' w w') := by
  refine enter (n := 6) Try.func37 rfl rfl (Nat.le_of_ble_eq_true rfl) ?_
  intro a0 τ0 ha st0
  have e0 : get a0 0 = (.int .i64 (x)) := ha 0 _ rfl
  clear ha
  refine wp_seq ?_
  refine region_St (bf := [0]) (sp := [
      (det (Nw w) 2 (.bool (false)))])
    [] mixed st0 (by kernel_rfl) trivial
    ⟨Ob.det rfl rfl rfl (fun _ a_ _ _ c => r_assign rfl rfl),
     trivial⟩ ?_
  intro a1 w1 τ1 st1 f1
  replace e0 := f1.old e0 (by kernel_rfl)
  have e2 : get a1 2 = (.bool (false)) := f1.v 0 rfl
  clear f1
  show Code.wp _ _ _ a1 w1
  refine wp_seq ?_
  refine region_St (bf := [0, 0, 3, 7]) (sp := [
      (det (Nw w) 3 (.int .i64 (x))),
        (det (Nw w) 4 (.int .i64 (x))),
        (det (Nw w) 5 (.bool (!decide (x = x)))),
        (det (Nw w) 2 (.bool (!decide (x = x))))])
    [] mixed st1 (by kernel_rfl) trivial
    ⟨Ob.det rfl rfl rfl (fun _ a_ _ _ c => r_move rfl (c.eo e0 (by kernel_rfl))),
       Ob.det rfl rfl rfl (fun _ a_ _ _ c => r_move rfl (c.eo e0 (by kernel_rfl))),
       Ob.det rfl rfl rfl (fun _ a_ _ _ c => r_neq rfl (c.ev 0 rfl rfl) (c.ev 1 rfl rfl)),
       Ob.det rfl rfl rfl (fun _ a_ _ _ c => r_assign rfl (c.ev 2 rfl rfl)),
     trivial⟩ ?_
  intro a2 w2 τ2 st2 f2
  have e2 : get a2 2 = (.bool (!decide (x = x))) := f2.v 3 rfl
  clear f2
  show Code.wp _ _ _ a2 w2
  refine wp_ret ?_
  repeat (first | with_reducible refine then_ret ?_ | with_reducible refine block_ret ?_)
  refine ret1 (fn := Try.f37) rfl st2.defers e2 ?_
  exact ⟨by simp, st2.ext0⟩

set_option maxRecDepth 100000 in
theorem compare_c (x y : Int) (w : World) : Calls Try.prog 28 #[.int .i64 x, .int .i64 y] w (fun e w' => e = .returned (.int .i64 (cmpI x y)) ∧ Ext none' w w') := by
  refine enter (n := 20) Try.func28 rfl rfl (Nat.le_of_ble_eq_true rfl) ?_
  intro a0 τ0 ha st0
  have e0 : get a0 0 = (.int .i64 (x)) := ha 0 _ rfl
  have e1 : get a0 1 = (.int .i64 (y)) := ha 1 _ rfl
  clear ha
  refine wp_seq ?_
  refine region_St (bf := [0]) (sp := [
      (det (Nw w) 4 (.int .i64 (0)))])
    [] mixed st0 (by kernel_rfl) trivial
    ⟨Ob.det rfl rfl rfl (fun _ a_ _ _ c => r_assign rfl rfl),
     trivial⟩ ?_
  intro a1 w1 τ1 st1 f1
  replace e0 := f1.old e0 (by kernel_rfl)
  replace e1 := f1.old e1 (by kernel_rfl)
  have e4 : get a1 4 = (.int .i64 (0)) := f1.v 0 rfl
  clear f1
  show Code.wp _ _ _ a1 w1
  refine wp_seq ?_
  refine region_St (bf := [0, 1, 3]) (sp := [
      (det (Nw w) 7 (.int .i64 (x))),
        (det (Nw w) 8 (.bool (false))),
        (det (Nw w) 5 (.bool (false)))])
    [] mixed st1 (by kernel_rfl) trivial
    ⟨Ob.det rfl rfl rfl (fun _ a_ _ _ c => r_move rfl (c.eo e0 (by kernel_rfl))),
       Ob.call rfl rfl rfl (fun _ a_ _ _ c => ⟨_, _, (e_call1 rfl rfl Try.call37 (c.ev 0 rfl rfl)), isNaN_c x _⟩),
       Ob.det rfl rfl rfl (fun _ a_ _ _ c => r_assign rfl (c.ev 1 rfl rfl)),
     trivial⟩ ?_
  intro a2 w2 τ2 st2 f2
  replace e0 := f2.old e0 (by kernel_rfl)
  replace e1 := f2.old e1 (by kernel_rfl)
  replace e4 := f2.old e4 (by kernel_rfl)
  have e5 : get a2 5 = (.bool (false)) := f2.v 2 rfl
  clear f2
  show Code.wp _ _ _ a2 w2
  refine wp_seq ?_
  refine region_St (bf := [0, 1, 3]) (sp := [
      (det (Nw w) 9 (.int .i64 (y))),
        (det (Nw w) 10 (.bool (false))),
        (det (Nw w) 6 (.bool (false)))])
    [] mixed st2 (by kernel_rfl) trivial
    ⟨Ob.det rfl rfl rfl (fun _ a_ _ _ c => r_move rfl (c.eo e1 (by kernel_rfl))),
       Ob.call rfl rfl rfl (fun _ a_ _ _ c => ⟨_, _, (e_call1 rfl rfl Try.call37 (c.ev 0 rfl rfl)), isNaN_c y _⟩),
       Ob.det rfl rfl rfl (fun _ a_ _ _ c => r_assign rfl (c.ev 1 rfl rfl)),
     trivial⟩ ?_
  intro a3 w3 τ3 st3 f3
  replace e0 := f3.old e0 (by kernel_rfl)
  replace e1 := f3.old e1 (by kernel_rfl)
  replace e4 := f3.old e4 (by kernel_rfl)
  replace e5 := f3.old e5 (by kernel_rfl)
  have e6 : get a3 6 = (.bool (false)) := f3.v 2 rfl
  clear f3
  show Code.wp _ _ _ a3 w3
  refine wp_seq ?_
  refine wp_seq ?_
  refine region_St (bf := [0]) (sp := [
      (det (Nw w) 11 (.bool (false)))])
    [] mixed st3 (by kernel_rfl) trivial
    ⟨Ob.det rfl rfl rfl (fun _ a_ _ _ c => r_move rfl (c.eo e5 (by kernel_rfl))),
     trivial⟩ ?_
  intro a4 w4 τ4 st4 f4
  replace e0 := f4.old e0 (by kernel_rfl)
  replace e1 := f4.old e1 (by kernel_rfl)
  replace e4 := f4.old e4 (by kernel_rfl)
  replace e6 := f4.old e6 (by kernel_rfl)
  have e11 : get a4 11 = (.bool (false)) := f4.v 0 rfl
  clear f4
  show Code.wp _ _ _ a4 w4
  refine wp_cond_false e11 ?_
  refine wp_skip ?_
  show Code.wp _ _ _ a4 w4
  refine wp_seq ?_
  refine wp_seq ?_
  refine region_St (bf := [0]) (sp := [
      (det (Nw w) 13 (.bool (false)))])
    [] mixed st4 (by kernel_rfl) trivial
    ⟨Ob.det rfl rfl rfl (fun _ a_ _ _ c => r_move rfl (c.eo e6 (by kernel_rfl))),
     trivial⟩ ?_
  intro a5 w5 τ5 st5 f5
  replace e0 := f5.old e0 (by kernel_rfl)
  replace e1 := f5.old e1 (by kernel_rfl)
  replace e4 := f5.old e4 (by kernel_rfl)
  have e13 : get a5 13 = (.bool (false)) := f5.v 0 rfl
  clear f5
  show Code.wp _ _ _ a5 w5
  refine wp_cond_false e13 ?_
  refine wp_skip ?_
  show Code.wp _ _ _ a5 w5
  refine wp_seq ?_
  refine wp_seq ?_
  refine region_St (bf := [0, 0, 3]) (sp := [
      (det (Nw w) 14 (.int .i64 (x))),
        (det (Nw w) 15 (.int .i64 (y))),
        (det (Nw w) 16 (.bool (decide (x < y))))])
    [] mixed st5 (by kernel_rfl) trivial
    ⟨Ob.det rfl rfl rfl (fun _ a_ _ _ c => r_move rfl (c.eo e0 (by kernel_rfl))),
       Ob.det rfl rfl rfl (fun _ a_ _ _ c => r_move rfl (c.eo e1 (by kernel_rfl))),
       Ob.det rfl rfl rfl (fun _ a_ _ _ c => r_lss rfl (c.ev 0 rfl rfl) (c.ev 1 rfl rfl)),
     trivial⟩ ?_
  intro a6 w6 τ6 st6 f6
  replace e0 := f6.old e0 (by kernel_rfl)
  replace e1 := f6.old e1 (by kernel_rfl)
  replace e4 := f6.old e4 (by kernel_rfl)
  have e16 : get a6 16 = (.bool (decide (x < y))) := f6.v 2 rfl
  clear f6
  show Code.wp _ _ _ a6 w6
  refine wp_cond_split (t := decide (x < y)) e16 (fun hc3 => ?_) (fun hc3 => ?_)
  · try simp only [Bool.and_eq_true, Bool.or_eq_true, decide_eq_true_eq, decide_eq_false_iff_not, Bool.not_eq_true', Bool.and_eq_false_iff, Bool.or_eq_false_iff, Bool.not_eq_false', Int.not_lt, Int.not_le, beq_iff_eq, selB] at hc3
    refine wp_seq ?_
    refine region_St (bf := [0]) (sp := [
        (det (Nw w) 4 (.int .i64 ((-1))))])
      [] mixed st6 (by kernel_rfl) trivial
      ⟨Ob.det rfl rfl rfl (fun _ a_ _ _ c => r_assign rfl rfl),
       trivial⟩ ?_
    intro a7 w7 τ7 st7 f7
    replace e0 := f7.old e0 (by kernel_rfl)
    replace e1 := f7.old e1 (by kernel_rfl)
    have e4 : get a7 4 = (.int .i64 ((-1))) := f7.v 0 rfl
    clear f7
    show Code.wp _ _ _ a7 w7
    refine wp_ret ?_
    repeat (first | with_reducible refine then_ret ?_ | with_reducible refine block_ret ?_)
    refine ret1 (fn := Try.f28) rfl st7.defers e4 ?_
    exact ⟨congrArg _ (int_eq (by unfold cmpI; split <;> (try split) <;> omega)), st7.ext0⟩
  try simp only [Bool.and_eq_true, Bool.or_eq_true, decide_eq_true_eq, decide_eq_false_iff_not, Bool.not_eq_true', Bool.and_eq_false_iff, Bool.or_eq_false_iff, Bool.not_eq_false', Int.not_lt, Int.not_le, beq_iff_eq, selB] at hc3
  refine wp_skip ?_
  show Code.wp _ _ _ a6 w6
  refine wp_seq ?_
  refine wp_seq ?_
  refine region_St (bf := [0, 0, 3]) (sp := [
      (det (Nw w) 17 (.int .i64 (x))),
        (det (Nw w) 18 (.int .i64 (y))),
        (det (Nw w) 19 (.bool (decide (y < x))))])
    [] mixed st6 (by kernel_rfl) trivial
    ⟨Ob.det rfl rfl rfl (fun _ a_ _ _ c => r_move rfl (c.eo e0 (by kernel_rfl))),
       Ob.det rfl rfl rfl (fun _ a_ _ _ c => r_move rfl (c.eo e1 (by kernel_rfl))),
       Ob.det rfl rfl rfl (fun _ a_ _ _ c => r_gtr rfl (c.ev 0 rfl rfl) (c.ev 1 rfl rfl)),
     trivial⟩ ?_
  intro a8 w8 τ8 st8 f8
  replace e4 := f8.old e4 (by kernel_rfl)
  have e19 : get a8 19 = (.bool (decide (y < x))) := f8.v 2 rfl
  clear f8
  show Code.wp _ _ _ a8 w8
  refine wp_cond_split (t := decide (y < x)) e19 (fun hc4 => ?_) (fun hc4 => ?_)
  · try simp only [Bool.and_eq_true, Bool.or_eq_true, decide_eq_true_eq, decide_eq_false_iff_not, Bool.not_eq_true', Bool.and_eq_false_iff, Bool.or_eq_false_iff, Bool.not_eq_false', Int.not_lt, Int.not_le, beq_iff_eq, selB] at hc4
    refine wp_seq ?_
    refine region_St (bf := [0]) (sp := [
        (det (Nw w) 4 (.int .i64 (1)))])
      [] mixed st8 (by kernel_rfl) trivial
      ⟨Ob.det rfl rfl rfl (fun _ a_ _ _ c => r_assign rfl rfl),
       trivial⟩ ?_
    intro a9 w9 τ9 st9 f9
    have e4 : get a9 4 = (.int .i64 (1)) := f9.v 0 rfl
    clear f9
    show Code.wp _ _ _ a9 w9
    refine wp_ret ?_
    repeat (first | with_reducible refine then_ret ?_ | with_reducible refine block_ret ?_)
    refine ret1 (fn := Try.f28) rfl st9.defers e4 ?_
    exact ⟨congrArg _ (int_eq (by unfold cmpI; split <;> (try split) <;> omega)), st9.ext0⟩
  try simp only [Bool.and_eq_true, Bool.or_eq_true, decide_eq_true_eq, decide_eq_false_iff_not, Bool.not_eq_true', Bool.and_eq_false_iff, Bool.or_eq_false_iff, Bool.not_eq_false', Int.not_lt, Int.not_le, beq_iff_eq, selB] at hc4
  refine wp_skip ?_
  show Code.wp _ _ _ a8 w8
  refine wp_seq ?_
  refine region_St (bf := [0]) (sp := [
      (det (Nw w) 4 (.int .i64 (0)))])
    [] mixed st8 (by kernel_rfl) trivial
    ⟨Ob.det rfl rfl rfl (fun _ a_ _ _ c => r_assign rfl rfl),
     trivial⟩ ?_
  intro a10 w10 τ10 st10 f10
  have e4 : get a10 4 = (.int .i64 (0)) := f10.v 0 rfl
  clear f10
  show Code.wp _ _ _ a10 w10
  refine wp_ret ?_
  repeat (first | with_reducible refine then_ret ?_ | with_reducible refine block_ret ?_)
  refine ret1 (fn := Try.f28) rfl st10.defers e4 ?_
  exact ⟨congrArg _ (int_eq (by unfold cmpI; split <;> (try split) <;> omega)), st10.ext0⟩

set_option maxRecDepth 100000 in
theorem or_c (v : Value) (xs : List Int) (w : World) (hS : SlT IntE w v xs) : Calls Try.prog 27 #[v] w (fun e w' => e = .returned (.int .i64 (orF xs)) ∧ Ext none' w w') := by
  refine enter (n := 18) Try.func27 rfl rfl (Nat.le_of_ble_eq_true rfl) ?_
  intro a0 τ0 ha st0
  have e0 : get a0 0 = v := ha 0 _ rfl
  clear ha
  have hle := hS.le
  refine wp_seq ?_
  refine region_St (bf := [0]) (sp := [
      (det (Nw w) 2 (.int .i64 (0)))])
    [] mixed st0 (by kernel_rfl) trivial
    ⟨Ob.det rfl rfl rfl (fun _ a_ _ _ c => r_assign rfl rfl),
     trivial⟩ ?_
  intro a1 w1 τ1 st1 f1
  replace e0 := f1.old e0 (by kernel_rfl)
  have e2 : get a1 2 = (.int .i64 (0)) := f1.v 0 rfl
  clear f1
  show Code.wp _ _ _ a1 w1
  refine wp_seq ?_
  refine region_St (bf := [0]) (sp := [
      (det (Nw w) 3 (.int .i64 (0)))])
    [] mixed st1 (by kernel_rfl) trivial
    ⟨Ob.det rfl rfl rfl (fun _ a_ _ _ c => r_assign rfl rfl),
     trivial⟩ ?_
  intro a2 w2 τ2 st2 f2
  replace e0 := f2.old e0 (by kernel_rfl)
  replace e2 := f2.old e2 (by kernel_rfl)
  have e3 : get a2 3 = (.int .i64 (0)) := f2.v 0 rfl
  clear f2
  show Code.wp _ _ _ a2 w2
  refine wp_seq ?_
  refine wp_seq ?_
  refine region_St (bf := [0, 1, 0]) (sp := [
      (det (Nw w) 6 v),
        (det (Nw w) 7 (.int .i64 ((xs.length : Int)))),
        (det (Nw w) 8 (.int .i64 (0)))])
    [] mixed st2 (by kernel_rfl) trivial
    ⟨Ob.det rfl rfl rfl (fun _ a_ _ _ c => r_move rfl (c.eo e0 (by kernel_rfl))),
       Ob.det rfl rfl rfl (fun _ a_ _ _ c => r_len rfl Try.underlying35 (c.ev 0 rfl rfl) hS.sl),
       Ob.det rfl rfl rfl (fun _ a_ _ _ c => r_move rfl rfl),
     trivial⟩ ?_
  intro a3 w3 τ3 st3 f3
  replace e2 := f3.old e2 (by kernel_rfl)
  replace e3 := f3.old e3 (by kernel_rfl)
  have e6 : get a3 6 = v := f3.v 0 rfl
  have e7 : get a3 7 = (.int .i64 ((xs.length : Int))) := f3.v 1 rfl
  have e8 : get a3 8 = (.int .i64 (0)) := f3.v 2 rfl
  clear f3
  show Code.wp _ _ _ a3 w3
  refine wp_block ?_
  refine wp_loop (fun a_ w_ => ∃ (k : Nat) (τ : Nat → Foot), (k ≤ xs.length) ∧
        (∀ x ∈ xs.take k, x = 0) ∧
        St (Nw w) w 18 a_ w_ τ ∧
        get a_ 8 = (.int .i64 ((k : Int))) ∧
        get a_ 3 = (.int .i64 (0)) ∧
        get a_ 6 = v ∧
        get a_ 7 = (.int .i64 ((xs.length : Int)))) (fun a_ _ => xs.length - (intOf (get a_ 8)).toNat) ?_ ?_
  · refine ⟨0, τ3, ?_, ?_, st3, (e8.trans (int_eq (by omega))), e3, e6, e7⟩
    · omega
    · simp
  intro a4 w4 hI
  obtain ⟨k, τ4, q0, q1, st4, e8, e3, e6, e7⟩ := hI
  have m8 := e8
  refine wp_seq ?_
  refine region_St (bf := [0]) (sp := [
      (det (Nw w) 9 (.bool (decide ((k : Int) < (xs.length : Int)))))])
    [] mixed st4 (by kernel_rfl) trivial
    ⟨Ob.det rfl rfl rfl (fun _ a_ _ _ c => r_lss rfl (c.eo e8 (by kernel_rfl)) (c.eo e7 (by kernel_rfl))),
     trivial⟩ ?_
  intro a5 w5 τ5 st5 f5
  replace e3 := f5.old e3 (by kernel_rfl)
  replace e6 := f5.old e6 (by kernel_rfl)
  replace e7 := f5.old e7 (by kernel_rfl)
  replace e8 := f5.old e8 (by kernel_rfl)
  have e9 : get a5 9 = (.bool (decide ((k : Int) < (xs.length : Int)))) := f5.v 0 rfl
  clear f5
  show Code.wp _ _ _ a5 w5
  refine wp_seq ?_
  refine wp_cond_split (t := decide ((k : Int) < (xs.length : Int))) e9 (fun hc1 => ?_) (fun hc1 => ?_)
  · try simp only [Bool.and_eq_true, Bool.or_eq_true, decide_eq_true_eq, decide_eq_false_iff_not, Bool.not_eq_true', Bool.and_eq_false_iff, Bool.or_eq_false_iff, Bool.not_eq_false', Int.not_lt, Int.not_le, beq_iff_eq, selB] at hc1
    refine wp_skip ?_
    show Code.wp _ _ _ a5 w5
    refine wp_seq ?_
    refine wp_block ?_
    refine wp_seq ?_
    refine region_St (bf := [0, 1, 3]) (sp := [
        (det (Nw w) 10 (.pointer (some ((ptrOf v).add (((k : Int) : Int).toNat * 1))))),
            (det (Nw w) 11 (.int .i64 ((nth xs ((k : Int)))))),
            (det (Nw w) 5 (.int .i64 ((nth xs ((k : Int))))))])
      [] mixed st5 (by kernel_rfl) trivial
      ⟨Ob.det rfl rfl rfl (fun _ a_ _ _ c => r_indexAddr rfl Try.underlying35 Try.sizeOf3 (c.eo e6 (by kernel_rfl)) hS.sl (c.eo e8 (by kernel_rfl)) (by omega) (by omega)),
           Ob.det rfl rfl rfl (fun _ a_ _ _ c => r_load1 rfl Try.isAgg3 (c.ev 0 rfl rfl) (((hS.at (st5.ext.trans c.J.ext))).elem (j := 0) (nth_some (by omega) (by omega)) rfl)),
           Ob.det rfl rfl rfl (fun _ a_ _ _ c => r_assign rfl (c.ev 1 rfl rfl)),
       trivial⟩ ?_
    intro a6 w6 τ6 st6 f6
    replace e3 := f6.old e3 (by kernel_rfl)
    have e5 : get a6 5 = (.int .i64 ((nth xs ((k : Int))))) := f6.v 2 rfl
    replace e6 := f6.old e6 (by kernel_rfl)
    replace e7 := f6.old e7 (by kernel_rfl)
    replace e8 := f6.old e8 (by kernel_rfl)
    replace e9 := f6.old e9 (by kernel_rfl)
    clear f6
    show Code.wp _ _ _ a6 w6
    refine wp_seq ?_
    refine region_St (bf := [0, 0, 3]) (sp := [
        (det (Nw w) 12 (.int .i64 ((nth xs ((k : Int)))))),
            (det (Nw w) 13 (.int .i64 (0))),
            (det (Nw w) 14 (.bool (!decide ((nth xs ((k : Int))) = 0))))])
      [] mixed st6 (by kernel_rfl) trivial
      ⟨Ob.det rfl rfl rfl (fun _ a_ _ _ c => r_move rfl (c.eo e5 (by kernel_rfl))),
           Ob.det rfl rfl rfl (fun _ a_ _ _ c => r_move rfl (c.eo e3 (by kernel_rfl))),
           Ob.det rfl rfl rfl (fun _ a_ _ _ c => r_neq rfl (c.ev 0 rfl rfl) (c.ev 1 rfl rfl)),
       trivial⟩ ?_
    intro a7 w7 τ7 st7 f7
    replace e3 := f7.old e3 (by kernel_rfl)
    replace e5 := f7.old e5 (by kernel_rfl)
    replace e6 := f7.old e6 (by kernel_rfl)
    replace e7 := f7.old e7 (by kernel_rfl)
    replace e8 := f7.old e8 (by kernel_rfl)
    replace e9 := f7.old e9 (by kernel_rfl)
    have e14 : get a7 14 = (.bool (!decide ((nth xs ((k : Int))) = 0))) := f7.v 2 rfl
    clear f7
    show Code.wp _ _ _ a7 w7
    refine wp_cond_split (t := !decide ((nth xs ((k : Int))) = 0)) e14 (fun hc2 => ?_) (fun hc2 => ?_)
    · try simp only [Bool.and_eq_true, Bool.or_eq_true, decide_eq_true_eq, decide_eq_false_iff_not, Bool.not_eq_true', Bool.and_eq_false_iff, Bool.or_eq_false_iff, Bool.not_eq_false', Int.not_lt, Int.not_le, beq_iff_eq, selB] at hc2
      refine wp_seq ?_
      refine region_St (bf := [0, 1]) (sp := [
          (det (Nw w) 15 (.int .i64 ((nth xs ((k : Int)))))),
                (det (Nw w) 2 (.int .i64 ((nth xs ((k : Int))))))])
        [] mixed st7 (by kernel_rfl) trivial
        ⟨Ob.det rfl rfl rfl (fun _ a_ _ _ c => r_move rfl (c.eo e5 (by kernel_rfl))),
               Ob.det rfl rfl rfl (fun _ a_ _ _ c => r_assign rfl (c.ev 0 rfl rfl)),
         trivial⟩ ?_
      intro a8 w8 τ8 st8 f8
      have e2 : get a8 2 = (.int .i64 ((nth xs ((k : Int))))) := f8.v 1 rfl
      replace e3 := f8.old e3 (by kernel_rfl)
      replace e5 := f8.old e5 (by kernel_rfl)
      replace e6 := f8.old e6 (by kernel_rfl)
      replace e7 := f8.old e7 (by kernel_rfl)
      replace e8 := f8.old e8 (by kernel_rfl)
      replace e9 := f8.old e9 (by kernel_rfl)
      replace e14 := f8.old e14 (by kernel_rfl)
      clear f8
      show Code.wp _ _ _ a8 w8
      refine wp_ret ?_
      repeat (first | with_reducible refine then_ret ?_ | with_reducible refine block_ret ?_)
      refine ret1 (fn := Try.f27) rfl st8.defers e2 ?_
      exact ⟨congrArg _ (int_eq (by first | exact (orF_hit q1 (by omega) (by assumption)).symm | exact (orF_miss q0 q1 (by assumption)).symm)), st8.ext0⟩
    try simp only [Bool.and_eq_true, Bool.or_eq_true, decide_eq_true_eq, decide_eq_false_iff_not, Bool.not_eq_true', Bool.and_eq_false_iff, Bool.or_eq_false_iff, Bool.not_eq_false', Int.not_lt, Int.not_le, beq_iff_eq, selB] at hc2
    refine wp_skip ?_
    show _
    show Code.wp _ _ _ a7 w7
    refine region_St (bf := [0, 1]) (sp := [
        (det (Nw w) 16 (.int .i64 ((k : Int) + 1))),
            (det (Nw w) 8 (.int .i64 ((k : Int) + 1)))])
      [] mixed st7 (by kernel_rfl) trivial
      ⟨Ob.det rfl rfl rfl (fun _ a_ _ _ c => r_add rfl (c.eo e8 (by kernel_rfl)) rfl (by omega)),
           Ob.det rfl rfl rfl (fun _ a_ _ _ c => r_move rfl (c.ev 0 rfl rfl)),
       trivial⟩ ?_
    intro a9 w9 τ9 st9 f9
    replace e3 := f9.old e3 (by kernel_rfl)
    replace e5 := f9.old e5 (by kernel_rfl)
    replace e6 := f9.old e6 (by kernel_rfl)
    replace e7 := f9.old e7 (by kernel_rfl)
    have e8 : get a9 8 = (.int .i64 ((k : Int) + 1)) := f9.v 1 rfl
    replace e9 := f9.old e9 (by kernel_rfl)
    replace e14 := f9.old e14 (by kernel_rfl)
    clear f9
    refine ⟨⟨k + 1, τ9, ?_, ?_, st9, (e8.trans (int_eq (by omega))), e3, e6, e7⟩, ?_⟩
    · omega
    · exact take_zero (by omega) q1 (by assumption)
    · simp only [m8, e8, intOf]; omega
  try simp only [Bool.and_eq_true, Bool.or_eq_true, decide_eq_true_eq, decide_eq_false_iff_not, Bool.not_eq_true', Bool.and_eq_false_iff, Bool.or_eq_false_iff, Bool.not_eq_false', Int.not_lt, Int.not_le, beq_iff_eq, selB] at hc1
  refine wp_exit ?_
  repeat (with_reducible refine then_exit ?_)
  refine exit_here ?_
  show Code.wp _ _ _ a5 w5
  refine wp_seq ?_
  refine region_St (bf := [0, 1]) (sp := [
      (det (Nw w) 17 (.int .i64 (0))),
        (det (Nw w) 2 (.int .i64 (0)))])
    [] mixed st5 (by kernel_rfl) trivial
    ⟨Ob.det rfl rfl rfl (fun _ a_ _ _ c => r_move rfl (c.eo e3 (by kernel_rfl))),
       Ob.det rfl rfl rfl (fun _ a_ _ _ c => r_assign rfl (c.ev 0 rfl rfl)),
     trivial⟩ ?_
  intro a10 w10 τ10 st10 f10
  have e2 : get a10 2 = (.int .i64 (0)) := f10.v 1 rfl
  clear f10
  show Code.wp _ _ _ a10 w10
  refine wp_ret ?_
  repeat (first | with_reducible refine then_ret ?_ | with_reducible refine block_ret ?_)
  refine ret1 (fn := Try.f27) rfl st10.defers e2 ?_
  exact ⟨congrArg _ (int_eq (by first | exact (orF_hit q1 (by omega) (by assumption)).symm | exact (orF_miss q0 q1 (by assumption)).symm)), st10.ext0⟩

set_option maxRecDepth 100000 in
theorem low_c (x n : Int) (w : World) (hn : 0 < n) (hn2 : n ≤ 9223372036854775807) : Calls Try.prog 14 #[.int .i64 x, .int .i64 n] w (fun e w' => e = .returned (.int .i64 (lowF x n)) ∧ Ext none' w w') := by
  refine enter (n := 11) Try.func14 rfl rfl (Nat.le_of_ble_eq_true rfl) ?_
  intro a0 τ0 ha st0
  have e0 : get a0 0 = (.int .i64 (x)) := ha 0 _ rfl
  have e1 : get a0 1 = (.int .i64 (n)) := ha 1 _ rfl
  clear ha
  refine wp_seq ?_
  refine region_St (bf := [0]) (sp := [
      (det (Nw w) 4 (.int .i64 (0)))])
    [] mixed st0 (by kernel_rfl) trivial
    ⟨Ob.det rfl rfl rfl (fun _ a_ _ _ c => r_assign rfl rfl),
     trivial⟩ ?_
  intro a1 w1 τ1 st1 f1
  replace e0 := f1.old e0 (by kernel_rfl)
  replace e1 := f1.old e1 (by kernel_rfl)
  have e4 : get a1 4 = (.int .i64 (0)) := f1.v 0 rfl
  clear f1
  show Code.wp _ _ _ a1 w1
  refine wp_seq ?_
  refine region_St (bf := [0, 1, 0, 4, 15, 31, 63]) (sp := [
      (det (Nw w) 5 (.int .i64 (x))),
        (det (Nw w) 6 (.int .u64 (IntKind.u64.wrap (x)))),
        (det (Nw w) 7 (.int .i64 (n))),
        (det (Nw w) 8 (.int .u64 (IntKind.u64.wrap (n)))),
        (det (Nw w) 9 (.int .u64 ((IntKind.u64.wrap (x)).tmod (IntKind.u64.wrap (n))))),
        (det (Nw w) 10 (.int .i64 (IntKind.i64.wrap ((IntKind.u64.wrap (x)).tmod (IntKind.u64.wrap (n)))))),
        (det (Nw w) 4 (.int .i64 (IntKind.i64.wrap ((IntKind.u64.wrap (x)).tmod (IntKind.u64.wrap (n))))))])
    [] mixed st1 (by kernel_rfl) trivial
    ⟨Ob.det rfl rfl rfl (fun _ a_ _ _ c => r_move rfl (c.eo e0 (by kernel_rfl))),
       Ob.det rfl rfl rfl (fun _ a_ _ _ c => r_conv rfl Try.underlying3 Try.underlying50 (c.ev 0 rfl rfl)),
       Ob.det rfl rfl rfl (fun _ a_ _ _ c => r_move rfl (c.eo e1 (by kernel_rfl))),
       Ob.det rfl rfl rfl (fun _ a_ _ _ c => r_conv rfl Try.underlying3 Try.underlying50 (c.ev 2 rfl rfl)),
       Ob.det rfl rfl rfl (fun _ a_ _ _ c => r_rem rfl (c.ev 1 rfl rfl) (c.ev 3 rfl rfl) (by exact u64_pos hn hn2)),
       Ob.det rfl rfl rfl (fun _ a_ _ _ c => r_conv rfl Try.underlying50 Try.underlying3 (c.ev 4 rfl rfl)),
       Ob.det rfl rfl rfl (fun _ a_ _ _ c => r_assign rfl (c.ev 5 rfl rfl)),
     trivial⟩ ?_
  intro a2 w2 τ2 st2 f2
  have e4 : get a2 4 = (.int .i64 (IntKind.i64.wrap ((IntKind.u64.wrap (x)).tmod (IntKind.u64.wrap (n))))) := f2.v 6 rfl
  clear f2
  show Code.wp _ _ _ a2 w2
  refine wp_ret ?_
  repeat (first | with_reducible refine then_ret ?_ | with_reducible refine block_ret ?_)
  refine ret1 (fn := Try.f14) rfl st2.defers e4 ?_
  exact ⟨rfl, st2.ext0⟩

set_option maxRecDepth 100000 in
theorem selSpan_c (p : Int × Int) (w : World) : Calls Try.prog 15 #[spanV p] w (fun e w' => e = .returned (spanV (sspan p)) ∧ Ext none' w w') := by
  refine enter (n := 14) Try.func15 rfl rfl (Nat.le_of_ble_eq_true rfl) ?_
  intro a0 τ0 ha st0
  have e0 : get a0 0 = (.agg #[(.int .i64 (p.1)), (.int .i64 (p.2))]) := ha 0 _ rfl
  clear ha
  refine wp_seq ?_
  refine region_St (bf := [0, 0]) (sp := [
      (box 33 (Nw w) 0 1 [(.int .i64 (p.1)), (.int .i64 (p.2))]),
        (box 39 (Nw w) 1 2 [(.int .i64 (0)), (.int .i64 (0))])])
    [] mixed st0 (by kernel_rfl) trivial
    ⟨Ob.box (v := (.agg #[(.int .i64 (p.1)), (.int .i64 (p.2))])) rfl rfl rfl rfl rfl (fun _ _ _ _ c => (c.eo e0 (by kernel_rfl))),
       Ob.alloc rfl rfl rfl rfl Try.zeroValue39 rfl,
     trivial⟩ ?_
  intro a1 w1 τ1 st1 f1
  obtain ⟨b1x1, e1⟩ : ∃ b, get a1 1 = b := ⟨_, rfl⟩
  obtain ⟨b1x2, e2⟩ : ∃ b, get a1 2 = b := ⟨_, rfl⟩
  have r0 : boxR 33 [(.int .i64 (p.1)), (.int .i64 (p.2))] (τ1 0) b1x1 w1 := f1.rbox 0 rfl rfl e1
  have r1 : boxR 39 [(.int .i64 (0)), (.int .i64 (0))] (τ1 1) b1x2 w1 := f1.rbox 1 rfl rfl e2
  clear f1
  show Code.wp _ _ _ a1 w1
  refine wp_seq ?_
  refine region_St (bf := [0, 1, 0, 4, 15, 0, 32, 0, 128, 480, 1023, 2047]) (sp := [
      (det (Nw w) 3 (.pointer (some ((ptrOf b1x1).add 0)))),
        (det (Nw w) 4 (.int .i64 (p.1))),
        (det (Nw w) 5 (.pointer (some ((ptrOf b1x1).add 1)))),
        (det (Nw w) 6 (.int .i64 (p.2))),
        (det (Nw w) 7 (.int .i64 (min p.1 p.2))),
        (det (Nw w) 8 (.pointer (some ((ptrOf b1x1).add 0)))),
        (det (Nw w) 9 (.int .i64 (p.1))),
        (det (Nw w) 10 (.pointer (some ((ptrOf b1x1).add 1)))),
        (det (Nw w) 11 (.int .i64 (p.2))),
        (det (Nw w) 12 (.int .i64 (max p.1 p.2))),
        (det (Nw w) 13 (.agg #[(.int .i64 (min p.1 p.2)), (.int .i64 (max p.1 p.2))])),
        (box 39 (Nw w) 1 2 [(.int .i64 (min p.1 p.2)), (.int .i64 (max p.1 p.2))])])
    [(ibox 33 (Nw w) b1x1 [(.int .i64 (p.1)), (.int .i64 (p.2))]), (ibox 39 (Nw w) b1x2 [(.int .i64 (0)), (.int .i64 (0))])] mixed st1 (by kernel_rfl) ⟨r0, r1, trivial⟩
    ⟨Ob.det rfl rfl rfl (fun _ a_ _ _ c => r_fieldAddr rfl Try.underlying33 rfl rfl Try.sizeOf3 ((c.eo e1 (by kernel_rfl)).trans r0.ptr)),
       Ob.det rfl rfl rfl (fun _ a_ _ _ c => r_load1 rfl Try.isAgg3 (c.ev 0 rfl rfl) ((c.ibox 0 rfl rfl (by kernel_rfl)).cell (j := 0) rfl)),
       Ob.det rfl rfl rfl (fun _ a_ _ _ c => r_fieldAddr rfl Try.underlying33 rfl rfl Try.sizeOf3 ((c.eo e1 (by kernel_rfl)).trans r0.ptr)),
       Ob.det rfl rfl rfl (fun _ a_ _ _ c => r_load1 rfl Try.isAgg3 (c.ev 2 rfl rfl) ((c.ibox 0 rfl rfl (by kernel_rfl)).cell (j := 1) rfl)),
       Ob.det rfl rfl rfl (fun _ a_ _ _ c => r_min rfl (c.ev 1 rfl rfl) (c.ev 3 rfl rfl)),
       Ob.det rfl rfl rfl (fun _ a_ _ _ c => r_fieldAddr rfl Try.underlying33 rfl rfl Try.sizeOf3 ((c.eo e1 (by kernel_rfl)).trans r0.ptr)),
       Ob.det rfl rfl rfl (fun _ a_ _ _ c => r_load1 rfl Try.isAgg3 (c.ev 5 rfl rfl) ((c.ibox 0 rfl rfl (by kernel_rfl)).cell (j := 0) rfl)),
       Ob.det rfl rfl rfl (fun _ a_ _ _ c => r_fieldAddr rfl Try.underlying33 rfl rfl Try.sizeOf3 ((c.eo e1 (by kernel_rfl)).trans r0.ptr)),
       Ob.det rfl rfl rfl (fun _ a_ _ _ c => r_load1 rfl Try.isAgg3 (c.ev 7 rfl rfl) ((c.ibox 0 rfl rfl (by kernel_rfl)).cell (j := 1) rfl)),
       Ob.det rfl rfl rfl (fun _ a_ _ _ c => r_max rfl (c.ev 6 rfl rfl) (c.ev 8 rfl rfl)),
       Ob.det rfl rfl rfl (fun _ a_ _ _ c => r_build (cells := #[(.int .i64 (min p.1 p.2)), (.int .i64 (max p.1 p.2))]) rfl Try.underlying39 Try.zeroValue39 (pl := #[(0, 1), (1, 1)]) (fun w_ => by simp [Try.sizeOf3]) (by simp only [List.map_toArray, List.map_cons, List.map_nil, (show a_.eval (.tmp 7) = (.int .i64 (min p.1 p.2)) from (c.ev 4 rfl rfl)), (show a_.eval (.tmp 12) = (.int .i64 (max p.1 p.2)) from (c.ev 9 rfl rfl))]; rfl)),
       Ob.storeBox (off := 0) (v := (.agg #[(.int .i64 (min p.1 p.2)), (.int .i64 (max p.1 p.2))])) rfl rfl rfl rfl Try.sizeOf39 (Nat.le_of_ble_eq_true rfl) (by simp [Value.cells, Value.oneCell']) rfl (fun _ _ _ _ c => ⟨by rw [(show get _ 2 = b1x2 from c.old e2 (by kernel_rfl))]; exact c.ibox 1 rfl rfl (by kernel_rfl), by rw [(show get _ 2 = b1x2 from c.old e2 (by kernel_rfl))]; exact ((c.eo e2 (by kernel_rfl)).trans r1.ptr), (c.ev 10 rfl rfl)⟩),
     trivial⟩ ?_
  intro a2 w2 τ2 st2 f2
  replace e2 := f2.old e2 (by kernel_rfl)
  have r1 : boxR 39 [(.int .i64 (min p.1 p.2)), (.int .i64 (max p.1 p.2))] (τ2 1) b1x2 w2 := f2.rbox 11 rfl rfl e2
  clear f2
  show Code.wp _ _ _ a2 w2
  refine wp_ret ?_
  repeat (first | with_reducible refine then_ret ?_ | with_reducible refine block_ret ?_)
  refine ret1c (fn := Try.f15) rfl st2.defers e2 r1 Try.isAgg39 Try.sizeOf39 rfl ?_
  exact ⟨rfl, st2.ext0⟩

set_option maxRecDepth 100000 in
theorem refSelSpan_c (p : Int × Int) (w : World) : Calls Try.prog 21 #[spanV p] w (fun e w' => e = .returned (spanV (sspan p)) ∧ Ext none' w w') := by
  refine enter (n := 14) Try.func21 rfl rfl (Nat.le_of_ble_eq_true rfl) ?_
  intro a0 τ0 ha st0
  have e0 : get a0 0 = (.agg #[(.int .i64 (p.1)), (.int .i64 (p.2))]) := ha 0 _ rfl
  clear ha
  refine wp_seq ?_
  refine region_St (bf := [0, 0]) (sp := [
      (box 33 (Nw w) 0 1 [(.int .i64 (p.1)), (.int .i64 (p.2))]),
        (box 39 (Nw w) 1 2 [(.int .i64 (0)), (.int .i64 (0))])])
    [] mixed st0 (by kernel_rfl) trivial
    ⟨Ob.box (v := (.agg #[(.int .i64 (p.1)), (.int .i64 (p.2))])) rfl rfl rfl rfl rfl (fun _ _ _ _ c => (c.eo e0 (by kernel_rfl))),
       Ob.alloc rfl rfl rfl rfl Try.zeroValue39 rfl,
     trivial⟩ ?_
  intro a1 w1 τ1 st1 f1
  obtain ⟨b1x1, e1⟩ : ∃ b, get a1 1 = b := ⟨_, rfl⟩
  obtain ⟨b1x2, e2⟩ : ∃ b, get a1 2 = b := ⟨_, rfl⟩
  have r0 : boxR 33 [(.int .i64 (p.1)), (.int .i64 (p.2))] (τ1 0) b1x1 w1 := f1.rbox 0 rfl rfl e1
  have r1 : boxR 39 [(.int .i64 (0)), (.int .i64 (0))] (τ1 1) b1x2 w1 := f1.rbox 1 rfl rfl e2
  clear f1
  show Code.wp _ _ _ a1 w1
  refine wp_seq ?_
  refine region_St (bf := [0, 1, 0, 4, 15, 0, 32, 0, 128, 480, 1023, 2047]) (sp := [
      (det (Nw w) 3 (.pointer (some ((ptrOf b1x1).add 0)))),
        (det (Nw w) 4 (.int .i64 (p.1))),
        (det (Nw w) 5 (.pointer (some ((ptrOf b1x1).add 1)))),
        (det (Nw w) 6 (.int .i64 (p.2))),
        (det (Nw w) 7 (.int .i64 (min p.1 p.2))),
        (det (Nw w) 8 (.pointer (some ((ptrOf b1x1).add 0)))),
        (det (Nw w) 9 (.int .i64 (p.1))),
        (det (Nw w) 10 (.pointer (some ((ptrOf b1x1).add 1)))),
        (det (Nw w) 11 (.int .i64 (p.2))),
        (det (Nw w) 12 (.int .i64 (max p.1 p.2))),
        (det (Nw w) 13 (.agg #[(.int .i64 (min p.1 p.2)), (.int .i64 (max p.1 p.2))])),
        (box 39 (Nw w) 1 2 [(.int .i64 (min p.1 p.2)), (.int .i64 (max p.1 p.2))])])
    [(ibox 33 (Nw w) b1x1 [(.int .i64 (p.1)), (.int .i64 (p.2))]), (ibox 39 (Nw w) b1x2 [(.int .i64 (0)), (.int .i64 (0))])] mixed st1 (by kernel_rfl) ⟨r0, r1, trivial⟩
    ⟨Ob.det rfl rfl rfl (fun _ a_ _ _ c => r_fieldAddr rfl Try.underlying33 rfl rfl Try.sizeOf3 ((c.eo e1 (by kernel_rfl)).trans r0.ptr)),
       Ob.det rfl rfl rfl (fun _ a_ _ _ c => r_load1 rfl Try.isAgg3 (c.ev 0 rfl rfl) ((c.ibox 0 rfl rfl (by kernel_rfl)).cell (j := 0) rfl)),
       Ob.det rfl rfl rfl (fun _ a_ _ _ c => r_fieldAddr rfl Try.underlying33 rfl rfl Try.sizeOf3 ((c.eo e1 (by kernel_rfl)).trans r0.ptr)),
       Ob.det rfl rfl rfl (fun _ a_ _ _ c => r_load1 rfl Try.isAgg3 (c.ev 2 rfl rfl) ((c.ibox 0 rfl rfl (by kernel_rfl)).cell (j := 1) rfl)),
       Ob.det rfl rfl rfl (fun _ a_ _ _ c => r_min rfl (c.ev 1 rfl rfl) (c.ev 3 rfl rfl)),
       Ob.det rfl rfl rfl (fun _ a_ _ _ c => r_fieldAddr rfl Try.underlying33 rfl rfl Try.sizeOf3 ((c.eo e1 (by kernel_rfl)).trans r0.ptr)),
       Ob.det rfl rfl rfl (fun _ a_ _ _ c => r_load1 rfl Try.isAgg3 (c.ev 5 rfl rfl) ((c.ibox 0 rfl rfl (by kernel_rfl)).cell (j := 0) rfl)),
       Ob.det rfl rfl rfl (fun _ a_ _ _ c => r_fieldAddr rfl Try.underlying33 rfl rfl Try.sizeOf3 ((c.eo e1 (by kernel_rfl)).trans r0.ptr)),
       Ob.det rfl rfl rfl (fun _ a_ _ _ c => r_load1 rfl Try.isAgg3 (c.ev 7 rfl rfl) ((c.ibox 0 rfl rfl (by kernel_rfl)).cell (j := 1) rfl)),
       Ob.det rfl rfl rfl (fun _ a_ _ _ c => r_max rfl (c.ev 6 rfl rfl) (c.ev 8 rfl rfl)),
       Ob.det rfl rfl rfl (fun _ a_ _ _ c => r_build (cells := #[(.int .i64 (min p.1 p.2)), (.int .i64 (max p.1 p.2))]) rfl Try.underlying39 Try.zeroValue39 (pl := #[(0, 1), (1, 1)]) (fun w_ => by simp [Try.sizeOf3]) (by simp only [List.map_toArray, List.map_cons, List.map_nil, (show a_.eval (.tmp 7) = (.int .i64 (min p.1 p.2)) from (c.ev 4 rfl rfl)), (show a_.eval (.tmp 12) = (.int .i64 (max p.1 p.2)) from (c.ev 9 rfl rfl))]; rfl)),
       Ob.storeBox (off := 0) (v := (.agg #[(.int .i64 (min p.1 p.2)), (.int .i64 (max p.1 p.2))])) rfl rfl rfl rfl Try.sizeOf39 (Nat.le_of_ble_eq_true rfl) (by simp [Value.cells, Value.oneCell']) rfl (fun _ _ _ _ c => ⟨by rw [(show get _ 2 = b1x2 from c.old e2 (by kernel_rfl))]; exact c.ibox 1 rfl rfl (by kernel_rfl), by rw [(show get _ 2 = b1x2 from c.old e2 (by kernel_rfl))]; exact ((c.eo e2 (by kernel_rfl)).trans r1.ptr), (c.ev 10 rfl rfl)⟩),
     trivial⟩ ?_
  intro a2 w2 τ2 st2 f2
  replace e2 := f2.old e2 (by kernel_rfl)
  have r1 : boxR 39 [(.int .i64 (min p.1 p.2)), (.int .i64 (max p.1 p.2))] (τ2 1) b1x2 w2 := f2.rbox 11 rfl rfl e2
  clear f2
  show Code.wp _ _ _ a2 w2
  refine wp_ret ?_
  repeat (first | with_reducible refine then_ret ?_ | with_reducible refine block_ret ?_)
  refine ret1c (fn := Try.f21) rfl st2.defers e2 r1 Try.isAgg39 Try.sizeOf39 rfl ?_
  exact ⟨rfl, st2.ext0⟩

set_option maxRecDepth 100000 in
theorem cmpSel_c (p q : Int × Int) (w : World) : Calls Try.prog 26 #[spanV p, spanV q] w (fun e w' => e = .returned (.int .i64 (cmpSel p q)) ∧ Ext none' w w') := by
  refine enter (n := 23) Try.func26 rfl rfl (Nat.le_of_ble_eq_true rfl) ?_
  intro a0 τ0 ha st0
  have e0 : get a0 0 = (.agg #[(.int .i64 (p.1)), (.int .i64 (p.2))]) := ha 0 _ rfl
  have e1 : get a0 1 = (.agg #[(.int .i64 (q.1)), (.int .i64 (q.2))]) := ha 1 _ rfl
  clear ha
  refine wp_seq ?_
  refine region_St (bf := [0, 0, 0]) (sp := [
      (box 33 (Nw w) 0 2 [(.int .i64 (p.1)), (.int .i64 (p.2))]),
        (box 33 (Nw w) 1 3 [(.int .i64 (q.1)), (.int .i64 (q.2))]),
        (det (Nw w) 4 (.int .i64 (0)))])
    [] mixed st0 (by kernel_rfl) trivial
    ⟨Ob.box (v := (.agg #[(.int .i64 (p.1)), (.int .i64 (p.2))])) rfl rfl rfl rfl rfl (fun _ _ _ _ c => (c.eo e0 (by kernel_rfl))),
       Ob.box (v := (.agg #[(.int .i64 (q.1)), (.int .i64 (q.2))])) rfl rfl rfl rfl rfl (fun _ _ _ _ c => (c.eo e1 (by kernel_rfl))),
       Ob.det rfl rfl rfl (fun _ a_ _ _ c => r_assign rfl rfl),
     trivial⟩ ?_
  intro a1 w1 τ1 st1 f1
  obtain ⟨b1x2, e2⟩ : ∃ b, get a1 2 = b := ⟨_, rfl⟩
  obtain ⟨b1x3, e3⟩ : ∃ b, get a1 3 = b := ⟨_, rfl⟩
  have e4 : get a1 4 = (.int .i64 (0)) := f1.v 2 rfl
  have r0 : boxR 33 [(.int .i64 (p.1)), (.int .i64 (p.2))] (τ1 0) b1x2 w1 := f1.rbox 0 rfl rfl e2
  have r1 : boxR 33 [(.int .i64 (q.1)), (.int .i64 (q.2))] (τ1 1) b1x3 w1 := f1.rbox 1 rfl rfl e3
  clear f1
  show Code.wp _ _ _ a1 w1
  refine wp_seq ?_
  refine region_St (bf := [0, 1, 0, 7, 0, 0, 63, 127]) (sp := [
      (det (Nw w) 7 (.agg #[(.int .i64 (p.1)), (.int .i64 (p.2))])),
        (det (Nw w) 8 (.agg #[(.int .i64 ((sspan p).1)), (.int .i64 ((sspan p).2))])),
        (det (Nw w) 9 (.agg #[(.int .i64 (q.1)), (.int .i64 (q.2))])),
        (det (Nw w) 10 (.agg #[(.int .i64 ((sspan q).1)), (.int .i64 ((sspan q).2))])),
        (box 39 (Nw w) 2 5 [(.int .i64 (0)), (.int .i64 (0))]),
        (box 39 (Nw w) 3 6 [(.int .i64 (0)), (.int .i64 (0))]),
        (box 39 (Nw w) 2 5 [(.int .i64 ((sspan p).1)), (.int .i64 ((sspan p).2))]),
        (box 39 (Nw w) 3 6 [(.int .i64 ((sspan q).1)), (.int .i64 ((sspan q).2))])])
    [(ibox 33 (Nw w) b1x2 [(.int .i64 (p.1)), (.int .i64 (p.2))]), (ibox 33 (Nw w) b1x3 [(.int .i64 (q.1)), (.int .i64 (q.2))])] mixed st1 (by kernel_rfl) ⟨r0, r1, trivial⟩
    ⟨Ob.det rfl rfl rfl (fun _ a_ _ _ c => r_loadN (vs := [(.int .i64 (p.1)), (.int .i64 (p.2))]) rfl Try.isAgg33 Try.sizeOf33 ((c.eo e2 (by kernel_rfl)).trans r0.ptr) rfl (fun _ _ hj => (c.ibox 0 rfl rfl (by kernel_rfl)).cell hj)),
       Ob.call rfl rfl rfl (fun _ a_ _ _ c => ⟨_, _, (e_call1 rfl rfl Try.call15 (c.ev 0 rfl rfl)), selSpan_c p _⟩),
       Ob.det rfl rfl rfl (fun _ a_ _ _ c => r_loadN (vs := [(.int .i64 (q.1)), (.int .i64 (q.2))]) rfl Try.isAgg33 Try.sizeOf33 ((c.eo e3 (by kernel_rfl)).trans r1.ptr) rfl (fun _ _ hj => (c.ibox 1 rfl rfl (by kernel_rfl)).cell hj)),
       Ob.call rfl rfl rfl (fun _ a_ _ _ c => ⟨_, _, (e_call1 rfl rfl Try.call15 (c.ev 2 rfl rfl)), selSpan_c q _⟩),
       Ob.alloc rfl rfl rfl rfl Try.zeroValue39 rfl,
       Ob.alloc rfl rfl rfl rfl Try.zeroValue39 rfl,
       Ob.storeBox (off := 0) (v := (.agg #[(.int .i64 ((sspan p).1)), (.int .i64 ((sspan p).2))])) rfl rfl rfl rfl Try.sizeOf39 (Nat.le_of_ble_eq_true rfl) (by simp [Value.cells, Value.oneCell']) rfl (fun _ _ _ _ c => ⟨c.rbox 4 rfl rfl (by kernel_rfl), (c.rbox 4 rfl rfl (by kernel_rfl)).ptr, (c.ev 1 rfl rfl)⟩),
       Ob.storeBox (off := 0) (v := (.agg #[(.int .i64 ((sspan q).1)), (.int .i64 ((sspan q).2))])) rfl rfl rfl rfl Try.sizeOf39 (Nat.le_of_ble_eq_true rfl) (by simp [Value.cells, Value.oneCell']) rfl (fun _ _ _ _ c => ⟨c.rbox 5 rfl rfl (by kernel_rfl), (c.rbox 5 rfl rfl (by kernel_rfl)).ptr, (c.ev 3 rfl rfl)⟩),
     trivial⟩ ?_
  intro a2 w2 τ2 st2 f2
  obtain ⟨b2x5, e5⟩ : ∃ b, get a2 5 = b := ⟨_, rfl⟩
  obtain ⟨b2x6, e6⟩ : ∃ b, get a2 6 = b := ⟨_, rfl⟩
  replace e4 := f2.old e4 (by kernel_rfl)
  have r2 : boxR 39 [(.int .i64 ((sspan p).1)), (.int .i64 ((sspan p).2))] (τ2 2) b2x5 w2 := f2.rbox 6 rfl rfl e5
  have r3 : boxR 39 [(.int .i64 ((sspan q).1)), (.int .i64 ((sspan q).2))] (τ2 3) b2x6 w2 := f2.rbox 7 rfl rfl e6
  clear f2
  show Code.wp _ _ _ a2 w2
  refine wp_seq ?_
  refine region_St (bf := [0, 1, 0, 4, 15, 0, 32, 0, 128, 511, 1023, 2047, 4095]) (sp := [
      (det (Nw w) 11 (.pointer (some ((ptrOf b2x5).add 0)))),
        (det (Nw w) 12 (.int .i64 ((sspan p).1))),
        (det (Nw w) 13 (.pointer (some ((ptrOf b2x6).add 0)))),
        (det (Nw w) 14 (.int .i64 ((sspan q).1))),
        (det (Nw w) 15 (.int .i64 (cmpI ((sspan p).1) ((sspan q).1)))),
        (det (Nw w) 16 (.pointer (some ((ptrOf b2x5).add 1)))),
        (det (Nw w) 17 (.int .i64 ((sspan p).2))),
        (det (Nw w) 18 (.pointer (some ((ptrOf b2x6).add 1)))),
        (det (Nw w) 19 (.int .i64 ((sspan q).2))),
        (det (Nw w) 20 (.int .i64 (cmpI ((sspan p).2) ((sspan q).2)))),
        (own IntE 3 (Nw w) 0 21 ([cmpI ((sspan p).1) ((sspan q).1), cmpI ((sspan p).2) ((sspan q).2)])),
        (det (Nw w) 22 (.int .i64 (orF ([cmpI ((sspan p).1) ((sspan q).1), cmpI ((sspan p).2) ((sspan q).2)])))),
        (det (Nw w) 4 (.int .i64 (orF ([cmpI ((sspan p).1) ((sspan q).1), cmpI ((sspan p).2) ((sspan q).2)]))))])
    [(Ini.any (Nw w)), (Ini.any (Nw w)), (ibox 39 (Nw w) b2x5 [(.int .i64 ((sspan p).1)), (.int .i64 ((sspan p).2))]), (ibox 39 (Nw w) b2x6 [(.int .i64 ((sspan q).1)), (.int .i64 ((sspan q).2))])] mixed st2 (by kernel_rfl) ⟨trivial, trivial, r2, r3, trivial⟩
    ⟨Ob.det rfl rfl rfl (fun _ a_ _ _ c => r_fieldAddr rfl Try.underlying39 rfl rfl Try.sizeOf3 ((c.eo e5 (by kernel_rfl)).trans r2.ptr)),
       Ob.det rfl rfl rfl (fun _ a_ _ _ c => r_load1 rfl Try.isAgg3 (c.ev 0 rfl rfl) ((c.ibox 2 rfl rfl (by kernel_rfl)).cell (j := 0) rfl)),
       Ob.det rfl rfl rfl (fun _ a_ _ _ c => r_fieldAddr rfl Try.underlying39 rfl rfl Try.sizeOf3 ((c.eo e6 (by kernel_rfl)).trans r3.ptr)),
       Ob.det rfl rfl rfl (fun _ a_ _ _ c => r_load1 rfl Try.isAgg3 (c.ev 2 rfl rfl) ((c.ibox 3 rfl rfl (by kernel_rfl)).cell (j := 0) rfl)),
       Ob.call rfl rfl rfl (fun _ a_ _ _ c => ⟨_, _, (e_call2 rfl rfl Try.call28 (c.ev 1 rfl rfl) (c.ev 3 rfl rfl)), compare_c ((sspan p).1) ((sspan q).1) _⟩),
       Ob.det rfl rfl rfl (fun _ a_ _ _ c => r_fieldAddr rfl Try.underlying39 rfl rfl Try.sizeOf3 ((c.eo e5 (by kernel_rfl)).trans r2.ptr)),
       Ob.det rfl rfl rfl (fun _ a_ _ _ c => r_load1 rfl Try.isAgg3 (c.ev 5 rfl rfl) ((c.ibox 2 rfl rfl (by kernel_rfl)).cell (j := 1) rfl)),
       Ob.det rfl rfl rfl (fun _ a_ _ _ c => r_fieldAddr rfl Try.underlying39 rfl rfl Try.sizeOf3 ((c.eo e6 (by kernel_rfl)).trans r3.ptr)),
       Ob.det rfl rfl rfl (fun _ a_ _ _ c => r_load1 rfl Try.isAgg3 (c.ev 7 rfl rfl) ((c.ibox 3 rfl rfl (by kernel_rfl)).cell (j := 1) rfl)),
       Ob.call rfl rfl rfl (fun _ a_ _ _ c => ⟨_, _, (e_call2 rfl rfl Try.call28 (c.ev 6 rfl rfl) (c.ev 8 rfl rfl)), compare_c ((sspan p).2) ((sspan q).2) _⟩),
       Ob.buildSlice (cells := #[(.int .i64 (cmpI ((sspan p).1) ((sspan q).1))), (.int .i64 (cmpI ((sspan p).2) ((sspan q).2)))]) rfl rfl rfl rfl Try.underlying35 Try.sizeOf3 Try.zeroValue3 rfl (by decide) (by decide) (fun _ a_ _ _ c => by simp only [List.map_toArray, List.map_cons, List.map_nil, (show a_.eval (.tmp 15) = (.int .i64 (cmpI ((sspan p).1) ((sspan q).1))) from (c.ev 4 rfl rfl)), (show a_.eval (.tmp 20) = (.int .i64 (cmpI ((sspan p).2) ((sspan q).2))) from (c.ev 9 rfl rfl))]; kernel_rfl) rfl,
       Ob.call rfl rfl rfl (fun _ a_ _ _ c => ⟨_, _, (e_call1 rfl rfl Try.call27 (eval_tmp _ 21)), or_c _ _ _ (c.rown 10 rfl rfl (by kernel_rfl)).1.sl⟩),
       Ob.det rfl rfl rfl (fun _ a_ _ _ c => r_assign rfl (c.ev 11 rfl rfl)),
     trivial⟩ ?_
  intro a3 w3 τ3 st3 f3
  obtain ⟨b3x21, e21⟩ : ∃ b, get a3 21 = b := ⟨_, rfl⟩
  have e4 : get a3 4 = (.int .i64 (orF ([cmpI ((sspan p).1) ((sspan q).1), cmpI ((sspan p).2) ((sspan q).2)]))) := f3.v 12 rfl
  clear f3
  show Code.wp _ _ _ a3 w3
  refine wp_ret ?_
  repeat (first | with_reducible refine then_ret ?_ | with_reducible refine block_ret ?_)
  refine ret1 (fn := Try.f26) rfl st3.defers e4 ?_
  exact ⟨rfl, st3.ext0⟩

set_option maxRecDepth 100000 in
theorem cmpE_c (p q : Int × Int × ByteArray) (w : World) : Calls Try.prog 40 #[(.agg #[(.int .i64 (p.1)), (.int .i64 (p.2.1)), (.string (p.2.2))]), (.agg #[(.int .i64 (q.1)), (.int .i64 (q.2.1)), (.string (q.2.2))])] w (fun e w' => e = .returned (.int .i64 (cmpE p q)) ∧ Ext none' w w') := by
  refine enter (n := 21) Try.func40 rfl rfl (Nat.le_of_ble_eq_true rfl) ?_
  intro a0 τ0 ha st0
  have e0 : get a0 0 = (.agg #[(.int .i64 (p.1)), (.int .i64 (p.2.1)), (.string (p.2.2))]) := ha 0 _ rfl
  have e1 : get a0 1 = (.agg #[(.int .i64 (q.1)), (.int .i64 (q.2.1)), (.string (q.2.2))]) := ha 1 _ rfl
  clear ha
  refine wp_seq ?_
  refine region_St (bf := [0, 0, 0]) (sp := [
      (box 42 (Nw w) 0 2 [(.int .i64 (p.1)), (.int .i64 (p.2.1)), (.string (p.2.2))]),
        (box 42 (Nw w) 1 3 [(.int .i64 (q.1)), (.int .i64 (q.2.1)), (.string (q.2.2))]),
        (det (Nw w) 4 (.int .i64 (0)))])
    [] mixed st0 (by kernel_rfl) trivial
    ⟨Ob.box (v := (.agg #[(.int .i64 (p.1)), (.int .i64 (p.2.1)), (.string (p.2.2))])) rfl rfl rfl rfl rfl (fun _ _ _ _ c => (c.eo e0 (by kernel_rfl))),
       Ob.box (v := (.agg #[(.int .i64 (q.1)), (.int .i64 (q.2.1)), (.string (q.2.2))])) rfl rfl rfl rfl rfl (fun _ _ _ _ c => (c.eo e1 (by kernel_rfl))),
       Ob.det rfl rfl rfl (fun _ a_ _ _ c => r_assign rfl rfl),
     trivial⟩ ?_
  intro a1 w1 τ1 st1 f1
  obtain ⟨b1x2, e2⟩ : ∃ b, get a1 2 = b := ⟨_, rfl⟩
  obtain ⟨b1x3, e3⟩ : ∃ b, get a1 3 = b := ⟨_, rfl⟩
  have e4 : get a1 4 = (.int .i64 (0)) := f1.v 2 rfl
  have r0 : boxR 42 [(.int .i64 (p.1)), (.int .i64 (p.2.1)), (.string (p.2.2))] (τ1 0) b1x2 w1 := f1.rbox 0 rfl rfl e2
  have r1 : boxR 42 [(.int .i64 (q.1)), (.int .i64 (q.2.1)), (.string (q.2.2))] (τ1 1) b1x3 w1 := f1.rbox 1 rfl rfl e3
  clear f1
  show Code.wp _ _ _ a1 w1
  refine wp_seq ?_
  refine region_St (bf := [0, 1, 3, 0, 8, 24, 63, 0, 128, 384, 0, 1024, 3072, 8191, 16383, 32767, 65535]) (sp := [
      (det (Nw w) 5 (.pointer (some ((ptrOf b1x2).add 0)))),
        (det (Nw w) 6 (.pointer (some (((ptrOf b1x2).add 0).add 0)))),
        (det (Nw w) 7 (.int .i64 (p.1))),
        (det (Nw w) 8 (.pointer (some ((ptrOf b1x3).add 0)))),
        (det (Nw w) 9 (.pointer (some (((ptrOf b1x3).add 0).add 0)))),
        (det (Nw w) 10 (.int .i64 (q.1))),
        (det (Nw w) 11 (.int .i64 (cmpI p.1 q.1))),
        (det (Nw w) 12 (.pointer (some ((ptrOf b1x2).add 0)))),
        (det (Nw w) 13 (.pointer (some (((ptrOf b1x2).add 0).add 1)))),
        (det (Nw w) 14 (.int .i64 (p.2.1))),
        (det (Nw w) 15 (.pointer (some ((ptrOf b1x3).add 0)))),
        (det (Nw w) 16 (.pointer (some (((ptrOf b1x3).add 0).add 1)))),
        (det (Nw w) 17 (.int .i64 (q.2.1))),
        (det (Nw w) 18 (.int .i64 (cmpI p.2.1 q.2.1))),
        (own IntE 3 (Nw w) 2 19 ([cmpI p.1 q.1, cmpI p.2.1 q.2.1])),
        (det (Nw w) 20 (.int .i64 (orF ([cmpI p.1 q.1, cmpI p.2.1 q.2.1])))),
        (det (Nw w) 4 (.int .i64 (orF ([cmpI p.1 q.1, cmpI p.2.1 q.2.1]))))])
    [(ibox 42 (Nw w) b1x2 [(.int .i64 (p.1)), (.int .i64 (p.2.1)), (.string (p.2.2))]), (ibox 42 (Nw w) b1x3 [(.int .i64 (q.1)), (.int .i64 (q.2.1)), (.string (q.2.2))])] mixed st1 (by kernel_rfl) ⟨r0, r1, trivial⟩
    ⟨Ob.det rfl rfl rfl (fun _ a_ _ _ c => r_fieldAddr rfl Try.underlying42 rfl rfl Try.sizeOf39 ((c.eo e2 (by kernel_rfl)).trans r0.ptr)),
       Ob.det rfl rfl rfl (fun _ a_ _ _ c => r_fieldAddr rfl Try.underlying39 rfl rfl Try.sizeOf3 (c.ev 0 rfl rfl)),
       Ob.det rfl rfl rfl (fun _ a_ _ _ c => r_load1 rfl Try.isAgg3 (c.ev 1 rfl rfl) (by rw [add_add]; exact (c.ibox 0 rfl rfl (by kernel_rfl)).cell (j := 0) rfl)),
       Ob.det rfl rfl rfl (fun _ a_ _ _ c => r_fieldAddr rfl Try.underlying42 rfl rfl Try.sizeOf39 ((c.eo e3 (by kernel_rfl)).trans r1.ptr)),
       Ob.det rfl rfl rfl (fun _ a_ _ _ c => r_fieldAddr rfl Try.underlying39 rfl rfl Try.sizeOf3 (c.ev 3 rfl rfl)),
       Ob.det rfl rfl rfl (fun _ a_ _ _ c => r_load1 rfl Try.isAgg3 (c.ev 4 rfl rfl) (by rw [add_add]; exact (c.ibox 1 rfl rfl (by kernel_rfl)).cell (j := 0) rfl)),
       Ob.call rfl rfl rfl (fun _ a_ _ _ c => ⟨_, _, (e_call2 rfl rfl Try.call28 (c.ev 2 rfl rfl) (c.ev 5 rfl rfl)), compare_c p.1 q.1 _⟩),
       Ob.det rfl rfl rfl (fun _ a_ _ _ c => r_fieldAddr rfl Try.underlying42 rfl rfl Try.sizeOf39 ((c.eo e2 (by kernel_rfl)).trans r0.ptr)),
       Ob.det rfl rfl rfl (fun _ a_ _ _ c => r_fieldAddr rfl Try.underlying39 rfl rfl Try.sizeOf3 (c.ev 7 rfl rfl)),
       Ob.det rfl rfl rfl (fun _ a_ _ _ c => r_load1 rfl Try.isAgg3 (c.ev 8 rfl rfl) (by rw [add_add]; exact (c.ibox 0 rfl rfl (by kernel_rfl)).cell (j := 1) rfl)),
       Ob.det rfl rfl rfl (fun _ a_ _ _ c => r_fieldAddr rfl Try.underlying42 rfl rfl Try.sizeOf39 ((c.eo e3 (by kernel_rfl)).trans r1.ptr)),
       Ob.det rfl rfl rfl (fun _ a_ _ _ c => r_fieldAddr rfl Try.underlying39 rfl rfl Try.sizeOf3 (c.ev 10 rfl rfl)),
       Ob.det rfl rfl rfl (fun _ a_ _ _ c => r_load1 rfl Try.isAgg3 (c.ev 11 rfl rfl) (by rw [add_add]; exact (c.ibox 1 rfl rfl (by kernel_rfl)).cell (j := 1) rfl)),
       Ob.call rfl rfl rfl (fun _ a_ _ _ c => ⟨_, _, (e_call2 rfl rfl Try.call28 (c.ev 9 rfl rfl) (c.ev 12 rfl rfl)), compare_c p.2.1 q.2.1 _⟩),
       Ob.buildSlice (cells := #[(.int .i64 (cmpI p.1 q.1)), (.int .i64 (cmpI p.2.1 q.2.1))]) rfl rfl rfl rfl Try.underlying35 Try.sizeOf3 Try.zeroValue3 rfl (by decide) (by decide) (fun _ a_ _ _ c => by simp only [List.map_toArray, List.map_cons, List.map_nil, (show a_.eval (.tmp 11) = (.int .i64 (cmpI p.1 q.1)) from (c.ev 6 rfl rfl)), (show a_.eval (.tmp 18) = (.int .i64 (cmpI p.2.1 q.2.1)) from (c.ev 13 rfl rfl))]; kernel_rfl) rfl,
       Ob.call rfl rfl rfl (fun _ a_ _ _ c => ⟨_, _, (e_call1 rfl rfl Try.call27 (eval_tmp _ 19)), or_c _ _ _ (c.rown 14 rfl rfl (by kernel_rfl)).1.sl⟩),
       Ob.det rfl rfl rfl (fun _ a_ _ _ c => r_assign rfl (c.ev 15 rfl rfl)),
     trivial⟩ ?_
  intro a2 w2 τ2 st2 f2
  obtain ⟨b2x19, e19⟩ : ∃ b, get a2 19 = b := ⟨_, rfl⟩
  have e4 : get a2 4 = (.int .i64 (orF ([cmpI p.1 q.1, cmpI p.2.1 q.2.1]))) := f2.v 16 rfl
  clear f2
  show Code.wp _ _ _ a2 w2
  refine wp_ret ?_
  repeat (first | with_reducible refine then_ret ?_ | with_reducible refine block_ret ?_)
  refine ret1 (fn := Try.f40) rfl st2.defers e4 ?_
  exact ⟨rfl, st2.ext0⟩

set_option maxRecDepth 100000 in
theorem len_c (p : Int × Int) (w : World) : Calls Try.prog 35 #[spanV p] w (fun e w' => e = .returned (.int .i64 (lenW p)) ∧ Ext none' w w') := by
  refine enter (n := 8) Try.func35 rfl rfl (Nat.le_of_ble_eq_true rfl) ?_
  intro a0 τ0 ha st0
  have e0 : get a0 0 = (.agg #[(.int .i64 (p.1)), (.int .i64 (p.2))]) := ha 0 _ rfl
  clear ha
  refine wp_seq ?_
  refine region_St (bf := [0, 0]) (sp := [
      (box 39 (Nw w) 0 1 [(.int .i64 (p.1)), (.int .i64 (p.2))]),
        (det (Nw w) 2 (.int .i64 (0)))])
    [] mixed st0 (by kernel_rfl) trivial
    ⟨Ob.box (v := (.agg #[(.int .i64 (p.1)), (.int .i64 (p.2))])) rfl rfl rfl rfl rfl (fun _ _ _ _ c => (c.eo e0 (by kernel_rfl))),
       Ob.det rfl rfl rfl (fun _ a_ _ _ c => r_assign rfl rfl),
     trivial⟩ ?_
  intro a1 w1 τ1 st1 f1
  obtain ⟨b1x1, e1⟩ : ∃ b, get a1 1 = b := ⟨_, rfl⟩
  have e2 : get a1 2 = (.int .i64 (0)) := f1.v 1 rfl
  have r0 : boxR 39 [(.int .i64 (p.1)), (.int .i64 (p.2))] (τ1 0) b1x1 w1 := f1.rbox 0 rfl rfl e1
  clear f1
  show Code.wp _ _ _ a1 w1
  refine wp_seq ?_
  refine region_St (bf := [0, 1, 0, 4, 15, 31]) (sp := [
      (det (Nw w) 3 (.pointer (some ((ptrOf b1x1).add 1)))),
        (det (Nw w) 4 (.int .i64 (p.2))),
        (det (Nw w) 5 (.pointer (some ((ptrOf b1x1).add 0)))),
        (det (Nw w) 6 (.int .i64 (p.1))),
        (det (Nw w) 7 (.int .i64 (IntKind.i64.wrap (p.2 - p.1)))),
        (det (Nw w) 2 (.int .i64 (IntKind.i64.wrap (p.2 - p.1))))])
    [(ibox 39 (Nw w) b1x1 [(.int .i64 (p.1)), (.int .i64 (p.2))])] mixed st1 (by kernel_rfl) ⟨r0, trivial⟩
    ⟨Ob.det rfl rfl rfl (fun _ a_ _ _ c => r_fieldAddr rfl Try.underlying39 rfl rfl Try.sizeOf3 ((c.eo e1 (by kernel_rfl)).trans r0.ptr)),
       Ob.det rfl rfl rfl (fun _ a_ _ _ c => r_load1 rfl Try.isAgg3 (c.ev 0 rfl rfl) ((c.ibox 0 rfl rfl (by kernel_rfl)).cell (j := 1) rfl)),
       Ob.det rfl rfl rfl (fun _ a_ _ _ c => r_fieldAddr rfl Try.underlying39 rfl rfl Try.sizeOf3 ((c.eo e1 (by kernel_rfl)).trans r0.ptr)),
       Ob.det rfl rfl rfl (fun _ a_ _ _ c => r_load1 rfl Try.isAgg3 (c.ev 2 rfl rfl) ((c.ibox 0 rfl rfl (by kernel_rfl)).cell (j := 0) rfl)),
       Ob.det rfl rfl rfl (fun _ a_ _ _ c => r_subW rfl (c.ev 1 rfl rfl) (c.ev 3 rfl rfl)),
       Ob.det rfl rfl rfl (fun _ a_ _ _ c => r_assign rfl (c.ev 4 rfl rfl)),
     trivial⟩ ?_
  intro a2 w2 τ2 st2 f2
  have e2 : get a2 2 = (.int .i64 (IntKind.i64.wrap (p.2 - p.1))) := f2.v 5 rfl
  clear f2
  show Code.wp _ _ _ a2 w2
  refine wp_ret ?_
  repeat (first | with_reducible refine then_ret ?_ | with_reducible refine block_ret ?_)
  refine ret1 (fn := Try.f35) rfl st2.defers e2 ?_
  exact ⟨rfl, st2.ext0⟩
end B
end Go.Proofs.Ytjapbdofhbfmfaa
