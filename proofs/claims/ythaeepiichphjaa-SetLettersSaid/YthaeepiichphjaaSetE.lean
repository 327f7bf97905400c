/-
  Walks, printed by a program (gen.py): SetE.
-/
import Derived.Test.YthaeepiichphjaaSetD
set_option linter.unusedSimpArgs false
set_option linter.unusedVariables false
namespace Go.Proofs.Ythaeepiichphjaa
namespace B
open Go.RowKit
open Srt
def rwB (p q : Rw) : Bool := decide (p = q)
def rwV (p : Rw) : Value := .agg #[.string p.1, .string p.2]
theorem rwB_eq (p q : Rw) : rwB p q = (eqT p.1 q.1 && eqT p.2 q.2) := by
  rw [Bool.eq_iff_iff]; simp [rwB, Prod.ext_iff, eqT_iff]
theorem rw_run (p q : Rw) (w : World) : (Op.equal 36 (rwV p) (rwV q)).run Try.prog w = .ok (rwB p q) w := by
  rw [rwB_eq]
  have h := run_equalIn_struct (P := Try.prog) w 9999 36 #[.string p.1, .string p.2] #[.string q.1, .string q.2] rfl Try.stoodInHeld36
  simp only [Op.equal, Op.maxDepth, rwV, h]
  simp [Program.fieldsOf, Op.eqFields, part, go_sem, eqT]
  by_cases h3 : p.1.toList = q.1.toList <;> by_cases h4 : p.2.toList = q.2.toList <;> simp [h3, h4]
theorem rw_eq {a : Act} {o : Oper} {w : World} {x y : Operand} {t' : TypeId} {p q : Rw} (ho : o.op = .binOp .eql 36 x y t') (hx : a.eval x = rwV p) (hy : a.eval y = rwV q) : Runs Try.prog a o w (.bool (rwB p q)) := by
  have h := rw_run p q w
  simp only [rwV] at h hx hy
  simp [Runs, execOp, ho, hx, hy, eqGuard, binOp, h]
theorem rw_ne {a : Act} {o : Oper} {w : World} {x y : Operand} {t' : TypeId} {p q : Rw} (ho : o.op = .binOp .neq 36 x y t') (hx : a.eval x = rwV p) (hy : a.eval y = rwV q) : Runs Try.prog a o w (.bool (!rwB p q)) := by
  have h := rw_run p q w
  simp only [rwV] at h hx hy
  simp [Runs, execOp, ho, hx, hy, eqGuard, binOp, h]
theorem and2 {a b : Bool} (h : (a && b) = true) : b = true := by cases a <;> simp_all
theorem row_no {r : Rw} (h : ((!properB r.1 || !properB r.2) || !leT r.1 r.2) = true) : rowB r = false := by rw [row_ref] at h; simpa using h
theorem row_yes {r : Rw} (h : ((!properB r.1 || !properB r.2) || !leT r.1 r.2) = false) : rowB r = true := by rw [row_ref] at h; simpa using h
theorem hasF_t {xs : List Rw} {n f : Bool} {s : ByteArray} (h : f = true) : hasF xs n f s = !(((inR xs s || inR xs (foldT s)) || inR xs (upT s)) == n) := by rw [hasF, if_pos h]
theorem hasF_f {xs : List Rw} {n f : Bool} {s : ByteArray} (h : f = false) : hasF xs n f s = !(inR xs s == n) := by rw [hasF, if_neg (by rw [h]; decide)]
theorem hasQ_t {xs : List Rw} {n f : Bool} {s : ByteArray} (h : (f && (inR xs (foldT s) || inR xs (upT s))) = true) : hasF xs n f s = !(true == n) := by
  cases f with
  | false => cases h
  | true =>
    rw [hasF_t rfl]
    simp only [Bool.true_and] at h
    rw [Bool.or_assoc, h, Bool.or_true]
theorem hasQ_f {xs : List Rw} {n f : Bool} {s : ByteArray} (h : (f && (inR xs (foldT s) || inR xs (upT s))) = false) : hasF xs n f s = !(inR xs s == n) := by
  cases f with
  | false => exact hasF_f rfl
  | true =>
    rw [hasF_t rfl]
    simp only [Bool.true_and] at h
    rw [Bool.or_assoc, h, Bool.or_false]
theorem named_100 {n : Int} (h : n = 100) : namedF n = [(⟨#[48]⟩, ⟨#[57]⟩)] ∧ namedB n = true := by subst h; exact ⟨rfl, rfl⟩
theorem named_119 {n : Int} (h : n = 119) : namedF n = [(⟨#[48]⟩, ⟨#[57]⟩), (⟨#[65]⟩, ⟨#[90]⟩), (⟨#[95]⟩, ⟨#[95]⟩), (⟨#[97]⟩, ⟨#[122]⟩)] ∧ namedB n = true := by subst h; exact ⟨rfl, rfl⟩
theorem named_115 {n : Int} (h : n = 115) : namedF n = [(⟨#[9]⟩, ⟨#[13]⟩), (⟨#[32]⟩, ⟨#[32]⟩)] ∧ namedB n = true := by subst h; exact ⟨rfl, rfl⟩
theorem named_no {n : Int} (h1 : ¬ n = 100) (h2 : ¬ n = 119) (h3 : ¬ n = 115) : namedF n = [] ∧ namedB n = false := by
  unfold namedF namedB
  rw [if_neg h1, if_neg h2, if_neg h3, decide_eq_false h1, decide_eq_false h2, decide_eq_false h3]
  exact ⟨rfl, rfl⟩
set_option maxRecDepth 100000 in
theorem row_c (r : ByteArray × ByteArray) (w : World) (h1 : r.1.size ≤ 1000000000) (h2 : r.2.size ≤ 1000000000) : Calls Try.prog 25 #[(.agg #[(.string (r.1)), (.string (r.2))])] w (fun e w' => e = .returned (.bool (rowB r)) ∧ Ext none' w w') := by
 refine enter (n := 18) Try.func25 rfl rfl (Nat.le_of_ble_eq_true rfl) ?_
 intro a0 τ0 ha st0
 have e0 : get a0 0 = (.agg #[(.string (r.1)), (.string (r.2))]) := ha 0 _ rfl
 clear ha
 refine wp_seq ?_
 refine region_St (bf := [0, 0]) (sp := [box _ _ 0 1 [(.string (r.1)), (.string (r.2))], det _ 2 _]) [] mixed st0 (by kernel_rfl) trivial
  ⟨Ob.box (v := (.agg #[(.string (r.1)), (.string (r.2))])) rfl rfl rfl rfl rfl (fun _ _ _ _ c => (c.p e0)),
  Ob.d fun c => r_assign rfl rfl, trivial⟩ ?_
 intro a1 w1 τ1 st1 f1
 obtain ⟨b1x1, e1⟩ : ∃ b, get a1 1 = b := ⟨_, rfl⟩
 have e2 : get a1 2 = (.bool (false)) := f1.v 1 rfl
 have r0 : boxR 36 [(.string (r.1)), (.string (r.2))] (τ1 0) b1x1 w1 := f1.rb 0 e1 rfl
 clear f1
 show Code.wp _ _ _ a1 w1
 refine wp_seq ?_
 refine region_St (bf := [0, 1, 3, 7, 15, 31, 63, 127, 255, 511, 1023, 511, 2559, 8191, 16383, 32767]) (sp := [det _ 3 _, det _ 4 _, det _ 5 _, det _ 6 _, gdet _ 7 _ _, gdet _ 8 _ _, gdet _ 9 _ _, det _ 10 _, det _ 11 _, gdet _ 12 _ _, gdet _ 13 _ _, gdet _ 14 _ _, gdet _ 15 _ _, gdet _ 16 _ _, det _ 17 _, det _ 2 _]) [ib r0] mixed st1 (by kernel_rfl) ⟨r0, trivial⟩
  ⟨Ob.d fun c => r_fieldAddr rfl Try.underlying36 rfl rfl Try.sizeOf9 ((c.p e1).trans r0.ptr),
  Ob.d fun c => r_load1 rfl Try.isAgg9 (c.n 0 rfl) ((c.ib 0 rfl).cell (j := 0) rfl),
  Ob.c fun c => ⟨_, _, (e_call1 rfl rfl Try.call35 (c.n 1 rfl)), proper_c r.1 _ (by omega)⟩,
  Ob.d fun c => r_move rfl (c.n 2 rfl),
  Ob.g 3 true rfl fun c hpc => r_fieldAddr rfl Try.underlying36 rfl rfl Try.sizeOf9 ((c.p e1).trans r0.ptr),
  Ob.g 3 true rfl fun c hpc => r_load1 rfl Try.isAgg9 (c.m 4 rfl hpc) ((c.ib 0 rfl).cell (j := 1) rfl),
  Ob.gc 3 true rfl fun c hpc => ⟨_, _, (e_call1 rfl rfl Try.call35 (c.m 5 rfl hpc)), proper_c r.2 _ (by have hq0 := hpc; omega)⟩,
  Ob.d fun c => r_and rfl (c.n 3 rfl) (fun h => c.m 6 rfl h),
  Ob.d fun c => r_move rfl (c.n 7 rfl),
  Ob.g 8 true rfl fun c hpc => r_fieldAddr rfl Try.underlying36 rfl rfl Try.sizeOf9 ((c.p e1).trans r0.ptr),
  Ob.g 8 true rfl fun c hpc => r_load1 rfl Try.isAgg9 (c.m 9 rfl hpc) ((c.ib 0 rfl).cell (j := 0) rfl),
  Ob.g 8 true rfl fun c hpc => r_fieldAddr rfl Try.underlying36 rfl rfl Try.sizeOf9 ((c.p e1).trans r0.ptr),
  Ob.g 8 true rfl fun c hpc => r_load1 rfl Try.isAgg9 (c.m 11 rfl hpc) ((c.ib 0 rfl).cell (j := 1) rfl),
  Ob.g 8 true rfl fun c hpc => r_sleq rfl (c.m 10 rfl hpc) (c.m 12 rfl hpc),
  Ob.d fun c => r_and rfl (c.n 8 rfl) (fun h => c.m 13 rfl h),
  Ob.d fun c => r_assign rfl (c.n 14 rfl), trivial⟩ ?_
 intro a2 w2 τ2 st2 f2
 have e2 : get a2 2 = (.bool (((properB r.1) && (properB r.2)) && (leT r.1 r.2))) := f2.v 15 rfl
 clear f2
 show Code.wp _ _ _ a2 w2
 refine wp_ret ?_
 repeat (first | with_reducible refine then_ret ?_ | with_reducible refine block_ret ?_)
 refine ret1 (fn := Try.f25) rfl st2.defers e2 ?_
 exact ⟨rfl, st2.ext0⟩

set_option maxRecDepth 100000 in
theorem mayR_c (v : Value) (xs : List (ByteArray × ByteArray)) (w : World) (hS : SlT RowE w v xs) (hz : Small xs) (hbig : xs.length ≤ 1000000000) : Calls Try.prog 11 #[v] w (fun e w' => e = .returned (.bool (mayRow xs)) ∧ Ext none' w w') := by
 refine enter (n := 31) Try.func11 rfl rfl (Nat.le_of_ble_eq_true rfl) ?_
 intro a0 τ0 ha st0
 have e0 : get a0 0 = v := ha 0 _ rfl
 clear ha
 have hle := hS.le
 refine wp_seq ?_
 refine region_St (bf := [0]) (sp := [det _ 2 _]) [] mixed st0 (by kernel_rfl) trivial
  ⟨Ob.d fun c => r_assign rfl rfl, trivial⟩ ?_
 intro a1 w1 τ1 st1 f1
 obtain ⟨e0, -⟩ := f1.ks [(0, _)] ⟨e0, trivial⟩
 have e2 : get a1 2 = (.bool (false)) := f1.v 0 rfl
 clear f1
 show Code.wp _ _ _ a1 w1
 refine wp_seq ?_
 refine wp_seq ?_
 refine region_St (bf := [0, 1, 0]) (sp := [det _ 5 _, det _ 6 _, det _ 7 _]) [] mixed st1 (by kernel_rfl) trivial
  ⟨Ob.d fun c => r_move rfl (c.p e0),
  Ob.d fun c => r_len rfl Try.underlying22 (c.n 0 rfl) hS.sl,
  Ob.d fun c => r_move rfl rfl, trivial⟩ ?_
 intro a2 w2 τ2 st2 f2
 obtain ⟨e0, e2, -⟩ := f2.ks [(0, _), (2, _)] ⟨e0, e2, trivial⟩
 have e5 : get a2 5 = v := f2.v 0 rfl
 have e6 : get a2 6 = (.int .i64 ((xs.length : Int))) := f2.v 1 rfl
 have e7 : get a2 7 = (.int .i64 (0)) := f2.v 2 rfl
 clear f2
 show Code.wp _ _ _ a2 w2
 refine wp_block ?_
 refine wp_loop (fun a_ w_ => ∃ (k : Nat) (τ : Nat → Foot), (k ≤ xs.length) ∧
      (∀ i < k, badRow xs ((i : Nat) : Int) = false) ∧
      St (Nw w) w 31 a_ w_ τ ∧
      get a_ 7 = (.int .i64 ((k : Int))) ∧
      get a_ 0 = v ∧
      get a_ 5 = v ∧
      get a_ 6 = (.int .i64 ((xs.length : Int)))) (fun a_ _ => xs.length - (intOf (get a_ 7)).toNat) ?_ ?_
 · refine ⟨0, τ2, ?_, ?_, st2, (e7.trans (int_eq (by omega))), e0, e5, e6⟩
   · omega
   · intro i hi; omega
 intro a3 w3 hI
 obtain ⟨k, τ3, q0, q1, st3, e7, e0, e5, e6⟩ := hI
 have hzk := small_at hz (k := k)
 have m7 := e7
 refine wp_seq ?_
 refine region_St (bf := [0]) (sp := [det _ 8 _]) [] mixed st3 (by kernel_rfl) trivial
  ⟨Ob.d fun c => r_lss rfl (c.p e7) (c.p e6), trivial⟩ ?_
 intro a4 w4 τ4 st4 f4
 obtain ⟨e0, e5, e6, e7, -⟩ := f4.ks [(0, _), (5, _), (6, _), (7, _)] ⟨e0, e5, e6, e7, trivial⟩
 have e8 : get a4 8 = (.bool (decide ((k : Int) < (xs.length : Int)))) := f4.v 0 rfl
 clear f4
 show Code.wp _ _ _ a4 w4
 refine wp_seq ?_
 refine wp_cond_split (t := decide ((k : Int) < (xs.length : Int))) e8 (fun hc1 => ?_) (fun hc1 => ?_)
 · try simp only [decide_eq_true_eq] at hc1
   refine wp_skip ?_
   show Code.wp _ _ _ a4 w4
   refine wp_seq ?_
   refine wp_block ?_
   refine wp_seq ?_
   refine region_St (bf := [0, 0, 2, 0, 15, 31]) (sp := [det _ 9 _, det _ 10 _, det _ 11 _, box _ _ 0 4 [(.string ((⟨#[]⟩ : ByteArray))), (.string ((⟨#[]⟩ : ByteArray)))], det _ 3 _, box _ _ 0 4 [(.string ((nth xs ((k : Int))).1)), (.string ((nth xs ((k : Int))).2))]]) [] mixed st4 (by kernel_rfl) trivial
    ⟨Ob.d fun c => r_move rfl (c.p e7),
    Ob.d fun c => r_indexAddr rfl Try.underlying22 Try.sizeOf36 (c.p e5) hS.sl (c.p e7) (by omega) (by omega),
    Ob.d fun c => r_loadN (vs := [(.string ((nth xs ((k : Int))).1)), (.string ((nth xs ((k : Int))).2))]) rfl Try.isAgg36 Try.sizeOf36 (c.n 1 rfl) rfl (fun _ _ hj => ((hS.at (st4.ext.trans c.J.ext))).elem (nth_some (i := (k : Int)) (by omega) (by omega)) hj),
    Ob.alloc rfl rfl rfl rfl Try.zeroValue36 rfl,
    Ob.d fun c => r_assign rfl (c.n 0 rfl),
    Ob.storeBox (off := 0) (v := (.agg #[(.string ((nth xs ((k : Int))).1)), (.string ((nth xs ((k : Int))).2))])) rfl rfl rfl rfl Try.sizeOf36 (Nat.le_of_ble_eq_true rfl) (by simp [Value.cells, Value.oneCell']) rfl (fun _ _ _ _ c => ⟨c.rb 3 rfl, (c.rb 3 rfl).ptr, (c.n 2 rfl)⟩), trivial⟩ ?_
   intro a5 w5 τ5 st5 f5
   obtain ⟨b5x4, e4⟩ : ∃ b, get a5 4 = b := ⟨_, rfl⟩
   obtain ⟨e0, e5, e6, e7, e8, -⟩ := f5.ks [(0, _), (5, _), (6, _), (7, _), (8, _)] ⟨e0, e5, e6, e7, e8, trivial⟩
   have e3 : get a5 3 = (.int .i64 ((k : Int))) := f5.v 4 rfl
   have r0 : boxR 36 [(.string ((nth xs ((k : Int))).1)), (.string ((nth xs ((k : Int))).2))] (τ5 0) b5x4 w5 := f5.rb 5 e4 rfl
   clear f5
   show Code.wp _ _ _ a5 w5
   refine wp_seq ?_
   refine region_St (bf := [0, 1, 3, 7, 15, 31, 63, 127, 255, 127, 127, 1151, 3711, 7807, 15999, 32767, 65535, 131071]) (sp := [det _ 12 _, det _ 13 _, det _ 14 _, det _ 15 _, gdet _ 16 _ _, gdet _ 17 _ _, gdet _ 18 _ _, gdet _ 19 _ _, gdet _ 20 _ _, gdet _ 21 _ _, gdet _ 22 _ _, gdet _ 23 _ _, gdet _ 24 _ _, gdet _ 25 _ _, gdet _ 26 _ _, gdet _ 27 _ _, gdet _ 28 _ _, det _ 29 _]) [ib r0] mixed st5 (by kernel_rfl) ⟨r0, trivial⟩
    ⟨Ob.d fun c => r_loadN (vs := [(.string ((nth xs ((k : Int))).1)), (.string ((nth xs ((k : Int))).2))]) rfl Try.isAgg36 Try.sizeOf36 ((c.p e4).trans r0.ptr) rfl (fun _ _ hj => (c.ib 0 rfl).cell hj),
    Ob.c fun c => ⟨_, _, (e_call1 rfl rfl Try.call25 (c.n 0 rfl)), row_c (nth xs ((k : Int))) _ (by omega) (by omega)⟩,
    Ob.d fun c => r_not rfl (c.n 1 rfl),
    Ob.d fun c => r_move rfl (c.n 2 rfl),
    Ob.g 3 false rfl fun c hpc => r_move rfl (c.p e3),
    Ob.g 3 false rfl fun c hpc => r_gtr rfl (c.m 4 rfl hpc) rfl,
    Ob.g 3 false rfl fun c hpc => r_move rfl (c.m 5 rfl hpc),
    Ob.gg 6 true rfl fun c hpc => r_fieldAddr rfl Try.underlying36 rfl rfl Try.sizeOf9 ((c.p e4).trans r0.ptr),
    Ob.gg 6 true rfl fun c hpc => r_load1 rfl Try.isAgg9 (c.m 7 rfl hpc) ((c.ib 0 rfl).cell (j := 0) rfl),
    Ob.gg 6 true rfl fun c hpc => r_move rfl (c.p e0),
    Ob.gg 6 true rfl fun c hpc => r_move rfl (c.p e3),
    Ob.gg 6 true rfl fun c hpc => r_sub rfl (c.m 10 rfl hpc) rfl (by have hq0 := bt (hpc.2); have hq1 := hpc.1; (try simp only [Bool.not_eq_true', Bool.not_eq_false'] at hq1); omega),
    Ob.gg 6 true rfl fun c hpc => r_indexAddr rfl Try.underlying22 Try.sizeOf36 (c.m 9 rfl hpc) hS.sl (c.m 11 rfl hpc) (by have hq0 := bt (hpc.2); have hq1 := hpc.1; (try simp only [Bool.not_eq_true', Bool.not_eq_false'] at hq1); omega) (by have hq0 := bt (hpc.2); have hq1 := hpc.1; (try simp only [Bool.not_eq_true', Bool.not_eq_false'] at hq1); omega),
    Ob.gg 6 true rfl fun c hpc => r_fieldAddr rfl Try.underlying36 rfl rfl Try.sizeOf9 (c.m 12 rfl hpc),
    Ob.gg 6 true rfl fun c hpc => r_load1 rfl Try.isAgg9 (c.m 13 rfl hpc) (((hS.at (st5.ext.trans c.J.ext))).elem (j := 1) (nth_some (i := (k : Int) - 1) (by have hq0 := bt (hpc.2); have hq1 := hpc.1; (try simp only [Bool.not_eq_true', Bool.not_eq_false'] at hq1); omega) (by have hq0 := bt (hpc.2); have hq1 := hpc.1; (try simp only [Bool.not_eq_true', Bool.not_eq_false'] at hq1); omega)) rfl),
    Ob.gg 6 true rfl fun c hpc => r_sleq rfl (c.m 8 rfl hpc) (c.m 14 rfl hpc),
    Ob.g 3 false rfl fun c hpc => r_and rfl (c.m 6 rfl hpc) (fun h => c.m 15 rfl (And.intro hpc h)),
    Ob.d fun c => r_or rfl (c.n 3 rfl) (fun h => c.m 16 rfl h), trivial⟩ ?_
   intro a6 w6 τ6 st6 f6
   obtain ⟨e0, e3, e4, e5, e6, e7, e8, -⟩ := f6.ks [(0, _), (3, _), (4, _), (5, _), (6, _), (7, _), (8, _)] ⟨e0, e3, e4, e5, e6, e7, e8, trivial⟩
   have e29 : get a6 29 = (.bool ((!(rowB (nth xs ((k : Int))))) || ((decide (0 < (k : Int))) && (leT ((nth xs ((k : Int))).1) ((nth xs ((k : Int) - 1)).2))))) := f6.v 17 rfl
   replace r0 := f6.ib 0 rfl
   clear f6
   show Code.wp _ _ _ a6 w6
   refine wp_cond_split (t := (!(rowB (nth xs ((k : Int))))) || ((decide (0 < (k : Int))) && (leT ((nth xs ((k : Int))).1) ((nth xs ((k : Int) - 1)).2)))) e29 (fun hc2 => ?_) (fun hc2 => ?_)
   · have hd2 := hc2; try simp only [Bool.and_eq_true, Bool.and_eq_false_iff, Bool.or_eq_true, Bool.or_eq_false_iff, Bool.not_eq_true', Bool.not_eq_false', decide_eq_true_eq, decide_eq_false_iff_not, Int.not_lt] at hd2
     refine wp_seq ?_
     refine region_St (bf := [0]) (sp := [det _ 2 _]) [ib r0] mixed st6 (by kernel_rfl) ⟨r0, trivial⟩
      ⟨Ob.d fun c => r_assign rfl rfl, trivial⟩ ?_
     intro a7 w7 τ7 st7 f7
     obtain ⟨e0, e3, e4, e5, e6, e7, e8, e29, -⟩ := f7.ks [(0, _), (3, _), (4, _), (5, _), (6, _), (7, _), (8, _), (29, _)] ⟨e0, e3, e4, e5, e6, e7, e8, e29, trivial⟩
     have e2 : get a7 2 = (.bool (false)) := f7.v 0 rfl
     replace r0 := f7.ib 0 rfl
     clear f7
     show Code.wp _ _ _ a7 w7
     refine wp_ret ?_
     repeat (first | with_reducible refine then_ret ?_ | with_reducible refine block_ret ?_)
     refine ret1 (fn := Try.f11) rfl st7.defers e2 ?_
     exact ⟨congrArg _ (congrArg _ (by exact (mayRow_no (k := k) (by omega) (by assumption)).symm)), st7.ext0⟩
   have hd2 := hc2; try simp only [Bool.and_eq_true, Bool.and_eq_false_iff, Bool.or_eq_true, Bool.or_eq_false_iff, Bool.not_eq_true', Bool.not_eq_false', decide_eq_true_eq, decide_eq_false_iff_not, Int.not_lt] at hd2
   refine wp_skip ?_
   show _
   show Code.wp _ _ _ a6 w6
   refine region_St (bf := [0, 1]) (sp := [det _ 30 _, det _ 7 _]) [ib r0] mixed st6 (by kernel_rfl) ⟨r0, trivial⟩
    ⟨Ob.d fun c => r_add rfl (c.p e7) rfl (by omega),
    Ob.d fun c => r_move rfl (c.n 0 rfl), trivial⟩ ?_
   intro a8 w8 τ8 st8 f8
   obtain ⟨e0, e3, e4, e5, e6, e8, e29, -⟩ := f8.ks [(0, _), (3, _), (4, _), (5, _), (6, _), (8, _), (29, _)] ⟨e0, e3, e4, e5, e6, e8, e29, trivial⟩
   have e7 : get a8 7 = (.int .i64 ((k : Int) + 1)) := f8.v 1 rfl
   replace r0 := f8.ib 0 rfl
   clear f8
   refine ⟨⟨k + 1, τ8, ?_, ?_, st8, (e7.trans (int_eq (by omega))), e0, e5, e6⟩, ?_⟩
   · omega
   · exact upto_succ q1 (by assumption)
   · simp only [m7, e7, intOf]; omega
 try simp only [decide_eq_false_iff_not, Int.not_lt] at hc1
 refine wp_exit ?_
 repeat (with_reducible refine then_exit ?_)
 refine exit_here ?_
 show Code.wp _ _ _ a4 w4
 refine wp_seq ?_
 refine region_St (bf := [0]) (sp := [det _ 2 _]) [] mixed st4 (by kernel_rfl) trivial
  ⟨Ob.d fun c => r_assign rfl rfl, trivial⟩ ?_
 intro a9 w9 τ9 st9 f9
 have e2 : get a9 2 = (.bool (true)) := f9.v 0 rfl
 clear f9
 show Code.wp _ _ _ a9 w9
 refine wp_ret ?_
 repeat (first | with_reducible refine then_ret ?_ | with_reducible refine block_ret ?_)
 refine ret1 (fn := Try.f11) rfl st9.defers e2 ?_
 exact ⟨congrArg _ (congrArg _ (by exact (mayRow_yes q1 (by omega)).symm)), st9.ext0⟩

set_option maxRecDepth 100000 in
theorem refMayR_c (v : Value) (xs : List (ByteArray × ByteArray)) (w : World) (hS : SlT RowE w v xs) (hz : Small xs) (hbig : xs.length ≤ 1000000000) : Calls Try.prog 12 #[v] w (fun e w' => e = .returned (.bool (mayRow xs)) ∧ Ext none' w w') := by
 refine enter (n := 47) Try.func12 rfl rfl (Nat.le_of_ble_eq_true rfl) ?_
 intro a0 τ0 ha st0
 have e0 : get a0 0 = v := ha 0 _ rfl
 clear ha
 have hle := hS.le
 refine wp_seq ?_
 refine region_St (bf := [0]) (sp := [det _ 2 _]) [] mixed st0 (by kernel_rfl) trivial
  ⟨Ob.d fun c => r_assign rfl rfl, trivial⟩ ?_
 intro a1 w1 τ1 st1 f1
 obtain ⟨e0, -⟩ := f1.ks [(0, _)] ⟨e0, trivial⟩
 have e2 : get a1 2 = (.bool (false)) := f1.v 0 rfl
 clear f1
 show Code.wp _ _ _ a1 w1
 refine wp_seq ?_
 refine wp_seq ?_
 refine region_St (bf := [0]) (sp := [det _ 3 _]) [] mixed st1 (by kernel_rfl) trivial
  ⟨Ob.d fun c => r_assign rfl rfl, trivial⟩ ?_
 intro a2 w2 τ2 st2 f2
 obtain ⟨e0, e2, -⟩ := f2.ks [(0, _), (2, _)] ⟨e0, e2, trivial⟩
 have e3 : get a2 3 = (.int .i64 (0)) := f2.v 0 rfl
 clear f2
 show Code.wp _ _ _ a2 w2
 refine wp_block ?_
 refine wp_loop (fun a_ w_ => ∃ (k : Nat) (τ : Nat → Foot), (k ≤ xs.length) ∧
      (∀ i < k, badRow xs ((i : Nat) : Int) = false) ∧
      St (Nw w) w 47 a_ w_ τ ∧
      get a_ 3 = (.int .i64 ((k : Int))) ∧
      get a_ 0 = v) (fun a_ _ => xs.length - (intOf (get a_ 3)).toNat) ?_ ?_
 · refine ⟨0, τ2, ?_, ?_, st2, (e3.trans (int_eq (by omega))), e0⟩
   · omega
   · intro i hi; omega
 intro a3 w3 hI
 obtain ⟨k, τ3, q0, q1, st3, e3, e0⟩ := hI
 have hzk := small_at hz (k := k)
 have m3 := e3
 refine wp_seq ?_
 refine wp_seq ?_
 refine region_St (bf := [0, 0, 2, 7]) (sp := [det _ 5 _, det _ 6 _, det _ 7 _, det _ 8 _]) [] mixed st3 (by kernel_rfl) trivial
  ⟨Ob.d fun c => r_move rfl (c.p e3),
  Ob.d fun c => r_move rfl (c.p e0),
  Ob.d fun c => r_len rfl Try.underlying22 (c.n 1 rfl) hS.sl,
  Ob.d fun c => r_lss rfl (c.n 0 rfl) (c.n 2 rfl), trivial⟩ ?_
 intro a4 w4 τ4 st4 f4
 obtain ⟨e0, e3, -⟩ := f4.ks [(0, _), (3, _)] ⟨e0, e3, trivial⟩
 have e8 : get a4 8 = (.bool (decide ((k : Int) < (xs.length : Int)))) := f4.v 3 rfl
 clear f4
 show Code.wp _ _ _ a4 w4
 refine wp_cond_split (t := decide ((k : Int) < (xs.length : Int))) e8 (fun hc1 => ?_) (fun hc1 => ?_)
 · try simp only [decide_eq_true_eq] at hc1
   refine wp_skip ?_
   show Code.wp _ _ _ a4 w4
   refine wp_seq ?_
   refine wp_block ?_
   refine wp_seq ?_
   refine region_St (bf := [0, 0, 3, 7, 0, 31]) (sp := [det _ 11 _, det _ 12 _, det _ 13 _, det _ 14 _, box _ _ 0 4 [(.string ((⟨#[]⟩ : ByteArray))), (.string ((⟨#[]⟩ : ByteArray)))], box _ _ 0 4 [(.string ((nth xs ((k : Int))).1)), (.string ((nth xs ((k : Int))).2))]]) [] mixed st4 (by kernel_rfl) trivial
    ⟨Ob.d fun c => r_move rfl (c.p e0),
    Ob.d fun c => r_move rfl (c.p e3),
    Ob.d fun c => r_indexAddr rfl Try.underlying22 Try.sizeOf36 (c.n 0 rfl) hS.sl (c.n 1 rfl) (by omega) (by omega),
    Ob.d fun c => r_loadN (vs := [(.string ((nth xs ((k : Int))).1)), (.string ((nth xs ((k : Int))).2))]) rfl Try.isAgg36 Try.sizeOf36 (c.n 2 rfl) rfl (fun _ _ hj => ((hS.at (st4.ext.trans c.J.ext))).elem (nth_some (i := (k : Int)) (by omega) (by omega)) hj),
    Ob.alloc rfl rfl rfl rfl Try.zeroValue36 rfl,
    Ob.storeBox (off := 0) (v := (.agg #[(.string ((nth xs ((k : Int))).1)), (.string ((nth xs ((k : Int))).2))])) rfl rfl rfl rfl Try.sizeOf36 (Nat.le_of_ble_eq_true rfl) (by simp [Value.cells, Value.oneCell']) rfl (fun _ _ _ _ c => ⟨c.rb 4 rfl, (c.rb 4 rfl).ptr, (c.n 3 rfl)⟩), trivial⟩ ?_
   intro a5 w5 τ5 st5 f5
   obtain ⟨b5x4, e4⟩ : ∃ b, get a5 4 = b := ⟨_, rfl⟩
   obtain ⟨e0, e3, e8, -⟩ := f5.ks [(0, _), (3, _), (8, _)] ⟨e0, e3, e8, trivial⟩
   have r0 : boxR 36 [(.string ((nth xs ((k : Int))).1)), (.string ((nth xs ((k : Int))).2))] (τ5 0) b5x4 w5 := f5.rb 5 e4 rfl
   clear f5
   show Code.wp _ _ _ a5 w5
   refine wp_seq ?_
   refine region_St (bf := [0, 1, 3, 7, 15, 31, 63, 127, 255, 511, 1023, 2047, 4095, 2047, 10239, 32767, 65535, 131071, 262143, 524287, 1048575, 2097151, 4194303, 2097151, 2097151, 18874367, 60817407, 127926271, 262143999, 536870911, 1073741823, 2147483647]) (sp := [det _ 15 _, det _ 16 _, det _ 17 _, det _ 18 _, det _ 19 _, gdet _ 20 _ _, gdet _ 21 _ _, gdet _ 22 _ _, gdet _ 23 _ _, det _ 24 _, det _ 25 _, gdet _ 26 _ _, gdet _ 27 _ _, gdet _ 28 _ _, gdet _ 29 _ _, gdet _ 30 _ _, det _ 31 _, det _ 32 _, gdet _ 33 _ _, gdet _ 34 _ _, gdet _ 35 _ _, gdet _ 36 _ _, gdet _ 37 _ _, gdet _ 38 _ _, gdet _ 39 _ _, gdet _ 40 _ _, gdet _ 41 _ _, gdet _ 42 _ _, gdet _ 43 _ _, gdet _ 44 _ _, gdet _ 45 _ _, det _ 46 _]) [ib r0] mixed st5 (by kernel_rfl) ⟨r0, trivial⟩
    ⟨Ob.d fun c => r_fieldAddr rfl Try.underlying36 rfl rfl Try.sizeOf9 ((c.p e4).trans r0.ptr),
    Ob.d fun c => r_load1 rfl Try.isAgg9 (c.n 0 rfl) ((c.ib 0 rfl).cell (j := 0) rfl),
    Ob.c fun c => ⟨_, _, (e_call1 rfl rfl Try.call26 (c.n 1 rfl)), refProper_c ((nth xs ((k : Int))).1) _ (by omega)⟩,
    Ob.d fun c => r_not rfl (c.n 2 rfl),
    Ob.d fun c => r_move rfl (c.n 3 rfl),
    Ob.g 4 false rfl fun c hpc => r_fieldAddr rfl Try.underlying36 rfl rfl Try.sizeOf9 ((c.p e4).trans r0.ptr),
    Ob.g 4 false rfl fun c hpc => r_load1 rfl Try.isAgg9 (c.m 5 rfl hpc) ((c.ib 0 rfl).cell (j := 1) rfl),
    Ob.gc 4 false rfl fun c hpc => ⟨_, _, (e_call1 rfl rfl Try.call26 (c.m 6 rfl hpc)), refProper_c ((nth xs ((k : Int))).2) _ (by have hq0 := hpc; (try simp only [Bool.not_eq_true', Bool.not_eq_false'] at hq0); omega)⟩,
    Ob.g 4 false rfl fun c hpc => r_not rfl (c.m 7 rfl hpc),
    Ob.d fun c => r_or rfl (c.n 4 rfl) (fun h => c.m 8 rfl h),
    Ob.d fun c => r_move rfl (c.n 9 rfl),
    Ob.g 10 false rfl fun c hpc => r_fieldAddr rfl Try.underlying36 rfl rfl Try.sizeOf9 ((c.p e4).trans r0.ptr),
    Ob.g 10 false rfl fun c hpc => r_load1 rfl Try.isAgg9 (c.m 11 rfl hpc) ((c.ib 0 rfl).cell (j := 0) rfl),
    Ob.g 10 false rfl fun c hpc => r_fieldAddr rfl Try.underlying36 rfl rfl Try.sizeOf9 ((c.p e4).trans r0.ptr),
    Ob.g 10 false rfl fun c hpc => r_load1 rfl Try.isAgg9 (c.m 13 rfl hpc) ((c.ib 0 rfl).cell (j := 1) rfl),
    Ob.g 10 false rfl fun c hpc => r_sgtr rfl (c.m 12 rfl hpc) (c.m 14 rfl hpc),
    Ob.d fun c => r_or rfl (c.n 10 rfl) (fun h => c.m 15 rfl h),
    Ob.d fun c => r_move rfl (c.n 16 rfl),
    Ob.g 17 false rfl fun c hpc => r_move rfl (c.p e3),
    Ob.g 17 false rfl fun c hpc => r_gtr rfl (c.m 18 rfl hpc) rfl,
    Ob.g 17 false rfl fun c hpc => r_move rfl (c.m 19 rfl hpc),
    Ob.gg 20 true rfl fun c hpc => r_fieldAddr rfl Try.underlying36 rfl rfl Try.sizeOf9 ((c.p e4).trans r0.ptr),
    Ob.gg 20 true rfl fun c hpc => r_load1 rfl Try.isAgg9 (c.m 21 rfl hpc) ((c.ib 0 rfl).cell (j := 0) rfl),
    Ob.gg 20 true rfl fun c hpc => r_move rfl (c.p e0),
    Ob.gg 20 true rfl fun c hpc => r_move rfl (c.p e3),
    Ob.gg 20 true rfl fun c hpc => r_sub rfl (c.m 24 rfl hpc) rfl (by have hq0 := bt (hpc.2); have hq1 := hpc.1; (try simp only [Bool.or_eq_true, Bool.or_eq_false_iff, Bool.not_eq_true', Bool.not_eq_false'] at hq1); omega),
    Ob.gg 20 true rfl fun c hpc => r_indexAddr rfl Try.underlying22 Try.sizeOf36 (c.m 23 rfl hpc) hS.sl (c.m 25 rfl hpc) (by have hq0 := bt (hpc.2); have hq1 := hpc.1; (try simp only [Bool.or_eq_true, Bool.or_eq_false_iff, Bool.not_eq_true', Bool.not_eq_false'] at hq1); omega) (by have hq0 := bt (hpc.2); have hq1 := hpc.1; (try simp only [Bool.or_eq_true, Bool.or_eq_false_iff, Bool.not_eq_true', Bool.not_eq_false'] at hq1); omega),
    Ob.gg 20 true rfl fun c hpc => r_fieldAddr rfl Try.underlying36 rfl rfl Try.sizeOf9 (c.m 26 rfl hpc),
    Ob.gg 20 true rfl fun c hpc => r_load1 rfl Try.isAgg9 (c.m 27 rfl hpc) (((hS.at (st5.ext.trans c.J.ext))).elem (j := 1) (nth_some (i := (k : Int) - 1) (by have hq0 := bt (hpc.2); have hq1 := hpc.1; (try simp only [Bool.or_eq_true, Bool.or_eq_false_iff, Bool.not_eq_true', Bool.not_eq_false'] at hq1); omega) (by have hq0 := bt (hpc.2); have hq1 := hpc.1; (try simp only [Bool.or_eq_true, Bool.or_eq_false_iff, Bool.not_eq_true', Bool.not_eq_false'] at hq1); omega)) rfl),
    Ob.gg 20 true rfl fun c hpc => r_sleq rfl (c.m 22 rfl hpc) (c.m 28 rfl hpc),
    Ob.g 17 false rfl fun c hpc => r_and rfl (c.m 20 rfl hpc) (fun h => c.m 29 rfl (And.intro hpc h)),
    Ob.d fun c => r_or rfl (c.n 17 rfl) (fun h => c.m 30 rfl h), trivial⟩ ?_
   intro a6 w6 τ6 st6 f6
   obtain ⟨e0, e3, e4, e8, -⟩ := f6.ks [(0, _), (3, _), (4, _), (8, _)] ⟨e0, e3, e4, e8, trivial⟩
   have e46 : get a6 46 = (.bool ((((!(properB ((nth xs ((k : Int))).1))) || (!(properB ((nth xs ((k : Int))).2)))) || (!(leT ((nth xs ((k : Int))).1) ((nth xs ((k : Int))).2)))) || ((decide (0 < (k : Int))) && (leT ((nth xs ((k : Int))).1) ((nth xs ((k : Int) - 1)).2))))) := f6.v 31 rfl
   replace r0 := f6.ib 0 rfl
   clear f6
   show Code.wp _ _ _ a6 w6
   refine wp_cond_split (t := (((!(properB ((nth xs ((k : Int))).1))) || (!(properB ((nth xs ((k : Int))).2)))) || (!(leT ((nth xs ((k : Int))).1) ((nth xs ((k : Int))).2)))) || ((decide (0 < (k : Int))) && (leT ((nth xs ((k : Int))).1) ((nth xs ((k : Int) - 1)).2)))) e46 (fun hc2 => ?_) (fun hc2 => ?_)
   · have hd2 := hc2; try simp only [Bool.and_eq_true, Bool.and_eq_false_iff, Bool.or_eq_true, Bool.or_eq_false_iff, Bool.not_eq_true', Bool.not_eq_false', decide_eq_true_eq, decide_eq_false_iff_not, Int.not_lt] at hd2
     refine wp_seq ?_
     refine region_St (bf := [0]) (sp := [det _ 2 _]) [ib r0] mixed st6 (by kernel_rfl) ⟨r0, trivial⟩
      ⟨Ob.d fun c => r_assign rfl rfl, trivial⟩ ?_
     intro a7 w7 τ7 st7 f7
     obtain ⟨e0, e3, e4, e8, e46, -⟩ := f7.ks [(0, _), (3, _), (4, _), (8, _), (46, _)] ⟨e0, e3, e4, e8, e46, trivial⟩
     have e2 : get a7 2 = (.bool (false)) := f7.v 0 rfl
     replace r0 := f7.ib 0 rfl
     clear f7
     show Code.wp _ _ _ a7 w7
     refine wp_ret ?_
     repeat (first | with_reducible refine then_ret ?_ | with_reducible refine block_ret ?_)
     refine ret1 (fn := Try.f12) rfl st7.defers e2 ?_
     exact ⟨congrArg _ (congrArg _ (by exact (mayRow_no (k := k) (by omega) ((badRow_ref xs (k : Int)).symm.trans (by assumption))).symm)), st7.ext0⟩
   have hd2 := hc2; try simp only [Bool.and_eq_true, Bool.and_eq_false_iff, Bool.or_eq_true, Bool.or_eq_false_iff, Bool.not_eq_true', Bool.not_eq_false', decide_eq_true_eq, decide_eq_false_iff_not, Int.not_lt] at hd2
   refine wp_skip ?_
   show _
   show Code.wp _ _ _ a6 w6
   refine region_St (bf := [0, 1, 3]) (sp := [det _ 9 _, det _ 10 _, det _ 3 _]) [ib r0] mixed st6 (by kernel_rfl) ⟨r0, trivial⟩
    ⟨Ob.d fun c => r_move rfl (c.p e3),
    Ob.d fun c => r_add rfl (c.n 0 rfl) rfl (by omega),
    Ob.d fun c => r_assign rfl (c.n 1 rfl), trivial⟩ ?_
   intro a8 w8 τ8 st8 f8
   obtain ⟨e0, e4, e8, e46, -⟩ := f8.ks [(0, _), (4, _), (8, _), (46, _)] ⟨e0, e4, e8, e46, trivial⟩
   have e3 : get a8 3 = (.int .i64 ((k : Int) + 1)) := f8.v 2 rfl
   replace r0 := f8.ib 0 rfl
   clear f8
   refine ⟨⟨k + 1, τ8, ?_, ?_, st8, (e3.trans (int_eq (by omega))), e0⟩, ?_⟩
   · omega
   · exact upto_succ q1 ((badRow_ref xs (k : Int)).symm.trans (by assumption))
   · simp only [m3, e3, intOf]; omega
 try simp only [decide_eq_false_iff_not, Int.not_lt] at hc1
 refine wp_exit ?_
 repeat (with_reducible refine then_exit ?_)
 refine exit_here ?_
 show Code.wp _ _ _ a4 w4
 refine wp_seq ?_
 refine region_St (bf := [0]) (sp := [det _ 2 _]) [] mixed st4 (by kernel_rfl) trivial
  ⟨Ob.d fun c => r_assign rfl rfl, trivial⟩ ?_
 intro a9 w9 τ9 st9 f9
 have e2 : get a9 2 = (.bool (true)) := f9.v 0 rfl
 clear f9
 show Code.wp _ _ _ a9 w9
 refine wp_ret ?_
 repeat (first | with_reducible refine then_ret ?_ | with_reducible refine block_ret ?_)
 refine ret1 (fn := Try.f12) rfl st9.defers e2 ?_
 exact ⟨congrArg _ (congrArg _ (by exact (mayRow_yes q1 (by omega)).symm)), st9.ext0⟩

set_option maxRecDepth 100000 in
theorem union_c (v : Value) (xs : List (ByteArray × ByteArray)) (w : World) (hS : SlT RowE w v xs) (hz : Small xs) (hbig : xs.length ≤ 1000000000) : Calls Try.prog 14 #[v] w (fun e w' => ∃ v', e = .returned v' ∧ Ext none' w w' ∧ NewT RowE 36 w w' v' (unionT xs)) := by
 refine enter (n := 64) Try.func14 rfl rfl (Nat.le_of_ble_eq_true rfl) ?_
 intro a0 τ0 ha st0
 have e0 : get a0 0 = v := ha 0 _ rfl
 clear ha
 have hle := hS.le
 refine wp_seq ?_
 refine region_St (bf := [0]) (sp := [det _ 2 _]) [] mixed st0 (by kernel_rfl) trivial
  ⟨Ob.d fun c => r_assign rfl rfl, trivial⟩ ?_
 intro a1 w1 τ1 st1 f1
 obtain ⟨e0, -⟩ := f1.ks [(0, _)] ⟨e0, trivial⟩
 have e2 : get a1 2 = (.slice none 0 0) := f1.v 0 rfl
 clear f1
 show Code.wp _ _ _ a1 w1
 refine wp_seq ?_
 refine region_St (bf := [0]) (sp := [det _ 3 _]) [] mixed st1 (by kernel_rfl) trivial
  ⟨Ob.d fun c => r_assign rfl rfl, trivial⟩ ?_
 intro a2 w2 τ2 st2 f2
 obtain ⟨e0, e2, -⟩ := f2.ks [(0, _), (2, _)] ⟨e0, e2, trivial⟩
 have e3 : get a2 3 = (.slice none 0 0) := f2.v 0 rfl
 clear f2
 show Code.wp _ _ _ a2 w2
 refine wp_seq ?_
 refine wp_seq ?_
 refine region_St (bf := [0, 1, 0]) (sp := [det _ 10 _, det _ 11 _, det _ 12 _]) [] mixed st2 (by kernel_rfl) trivial
  ⟨Ob.d fun c => r_move rfl (c.p e0),
  Ob.d fun c => r_len rfl Try.underlying22 (c.n 0 rfl) hS.sl,
  Ob.d fun c => r_move rfl rfl, trivial⟩ ?_
 intro a3 w3 τ3 st3 f3
 obtain ⟨e2, e3, -⟩ := f3.ks [(2, _), (3, _)] ⟨e2, e3, trivial⟩
 have e10 : get a3 10 = v := f3.v 0 rfl
 have e11 : get a3 11 = (.int .i64 ((xs.length : Int))) := f3.v 1 rfl
 have e12 : get a3 12 = (.int .i64 (0)) := f3.v 2 rfl
 clear f3
 show Code.wp _ _ _ a3 w3
 refine wp_block ?_
 refine wp_loop (fun a_ w_ => ∃ (k : Nat) (u : Value) (τ : Nat → Foot), (k ≤ xs.length) ∧
      St (Nw w) w 64 a_ w_ τ ∧
      get a_ 3 = u ∧
      get a_ 12 = (.int .i64 ((k : Int))) ∧
      get a_ 2 = (.slice none 0 0) ∧
      get a_ 10 = v ∧
      get a_ 11 = (.int .i64 ((xs.length : Int))) ∧
      ownR RowE 36 ((xs.take k).filter rowB) (τ 0) u w_) (fun a_ _ => xs.length - (intOf (get a_ 12)).toNat) ?_ ?_
 · refine ⟨0, (.slice none 0 0), τ3, ?_, st3, e3, (e12.trans (int_eq (by omega))), e2, e10, e11, ?_⟩
   · omega
   · exact ownR.nil _ _ _ _
 intro a4 w4 hI
 obtain ⟨k, u, τ4, q0, st4, e3, e12, e2, e10, e11, r0⟩ := hI
 have hfl := filter_le (f := rowB) (xs := xs) (k := k)
 have hzk := small_at hz (k := k)
 have m12 := e12
 refine wp_seq ?_
 refine region_St (bf := [0]) (sp := [det _ 13 _]) [io r0] mixed st4 (by kernel_rfl) ⟨r0, trivial⟩
  ⟨Ob.d fun c => r_lss rfl (c.p e12) (c.p e11), trivial⟩ ?_
 intro a5 w5 τ5 st5 f5
 obtain ⟨e2, e3, e10, e11, e12, -⟩ := f5.ks [(2, _), (3, _), (10, _), (11, _), (12, _)] ⟨e2, e3, e10, e11, e12, trivial⟩
 have e13 : get a5 13 = (.bool (decide ((k : Int) < (xs.length : Int)))) := f5.v 0 rfl
 replace r0 := f5.io 0 rfl
 clear f5
 show Code.wp _ _ _ a5 w5
 refine wp_seq ?_
 refine wp_cond_split (t := decide ((k : Int) < (xs.length : Int))) e13 (fun hc1 => ?_) (fun hc1 => ?_)
 · try simp only [decide_eq_true_eq] at hc1
   refine wp_skip ?_
   show Code.wp _ _ _ a5 w5
   refine wp_seq ?_
   refine wp_block ?_
   refine wp_seq ?_
   refine region_St (bf := [0, 1, 0, 7]) (sp := [det _ 14 _, det _ 15 _, box _ _ 2 5 [(.string ((⟨#[]⟩ : ByteArray))), (.string ((⟨#[]⟩ : ByteArray)))], box _ _ 2 5 [(.string ((nth xs ((k : Int))).1)), (.string ((nth xs ((k : Int))).2))]]) [io r0] mixed st5 (by kernel_rfl) ⟨r0, trivial⟩
    ⟨Ob.d fun c => r_indexAddr rfl Try.underlying22 Try.sizeOf36 (c.p e10) hS.sl (c.p e12) (by omega) (by omega),
    Ob.d fun c => r_loadN (vs := [(.string ((nth xs ((k : Int))).1)), (.string ((nth xs ((k : Int))).2))]) rfl Try.isAgg36 Try.sizeOf36 (c.n 0 rfl) rfl (fun _ _ hj => ((hS.at (st5.ext.trans c.J.ext))).elem (nth_some (i := (k : Int)) (by omega) (by omega)) hj),
    Ob.alloc rfl rfl rfl rfl Try.zeroValue36 rfl,
    Ob.storeBox (off := 0) (v := (.agg #[(.string ((nth xs ((k : Int))).1)), (.string ((nth xs ((k : Int))).2))])) rfl rfl rfl rfl Try.sizeOf36 (Nat.le_of_ble_eq_true rfl) (by simp [Value.cells, Value.oneCell']) rfl (fun _ _ _ _ c => ⟨c.rb 2 rfl, (c.rb 2 rfl).ptr, (c.n 1 rfl)⟩), trivial⟩ ?_
   intro a6 w6 τ6 st6 f6
   obtain ⟨b6x5, e5⟩ : ∃ b, get a6 5 = b := ⟨_, rfl⟩
   obtain ⟨e2, e3, e10, e11, e12, e13, -⟩ := f6.ks [(2, _), (3, _), (10, _), (11, _), (12, _), (13, _)] ⟨e2, e3, e10, e11, e12, e13, trivial⟩
   replace r0 := f6.io 0 rfl
   have r2 : boxR 36 [(.string ((nth xs ((k : Int))).1)), (.string ((nth xs ((k : Int))).2))] (τ6 2) b6x5 w6 := f6.rb 3 e5 rfl
   clear f6
   show Code.wp _ _ _ a6 w6
   refine wp_seq ?_
   refine region_St (bf := [0, 1]) (sp := [det _ 16 _, det _ 17 _]) [io r0, Ini.any _, ib r2] mixed st6 (by kernel_rfl) ⟨r0, trivial, r2, trivial⟩
    ⟨Ob.d fun c => r_loadN (vs := [(.string ((nth xs ((k : Int))).1)), (.string ((nth xs ((k : Int))).2))]) rfl Try.isAgg36 Try.sizeOf36 ((c.p e5).trans r2.ptr) rfl (fun _ _ hj => (c.ib 2 rfl).cell hj),
    Ob.c fun c => ⟨_, _, (e_call1 rfl rfl Try.call25 (c.n 0 rfl)), row_c (nth xs ((k : Int))) _ (by omega) (by omega)⟩, trivial⟩ ?_
   intro a7 w7 τ7 st7 f7
   obtain ⟨e2, e3, e5, e10, e11, e12, e13, -⟩ := f7.ks [(2, _), (3, _), (5, _), (10, _), (11, _), (12, _), (13, _)] ⟨e2, e3, e5, e10, e11, e12, e13, trivial⟩
   have e17 : get a7 17 = (.bool (rowB (nth xs ((k : Int))))) := f7.v 1 rfl
   replace r0 := f7.io 0 rfl
   replace r2 := f7.ib 2 rfl
   clear f7
   show Code.wp _ _ _ a7 w7
   refine wp_cond_split (t := rowB (nth xs ((k : Int)))) e17 (fun hc2 => ?_) (fun hc2 => ?_)
   · skip
     refine region_St (bf := [0, 0, 2, 7, 15]) (sp := [det _ 18 _, det _ 19 _, own RowE 36 _ 3 20 ([(nth xs ((k : Int)))]), own _ _ _ 0 21 _, own _ _ _ 0 3 _]) [io r0, Ini.any _, ib r2] mixed st7 (by kernel_rfl) ⟨r0, trivial, r2, trivial⟩
      ⟨Ob.d fun c => r_move rfl (c.p e3),
      Ob.d fun c => r_loadN (vs := [(.string ((nth xs ((k : Int))).1)), (.string ((nth xs ((k : Int))).2))]) rfl Try.isAgg36 Try.sizeOf36 ((c.p e5).trans r2.ptr) rfl (fun _ _ hj => (c.ib 2 rfl).cell hj),
      Ob.buildSlice (cells := #[(.string ((nth xs ((k : Int))).1)), (.string ((nth xs ((k : Int))).2))]) rfl rfl rfl rfl Try.underlying22 Try.sizeOf36 Try.zeroValue36 rfl (by decide) (by decide) (fun _ _ _ _ c => fill1 (c.n 1 rfl) (by kernel_rfl)) rfl,
      Ob.append (t0 := 3) rfl rfl rfl rfl Try.underlying22 (i := Try.t36) rfl rfl rfl rfl (by simp only [maxLen]; (try simp); omega) (by show _ * 32 ≤ _; (try simp); omega) (fun _ _ _ _ c => ⟨c.ip 0 rfl e3, c.sm (c.n 0 rfl) e3, ⟨_, rfl, (c.ro 2 rfl).1.sl⟩⟩),
      Ob.moveT (t0 := 21) rfl rfl rfl rfl rfl (.inr rfl) (fun _ _ _ _ c => ⟨c.ro 3 rfl, rfl⟩), trivial⟩ ?_
     intro a8 w8 τ8 st8 f8
     obtain ⟨b8x20, e20⟩ : ∃ b, get a8 20 = b := ⟨_, rfl⟩
     obtain ⟨b8x3, e3⟩ : ∃ b, get a8 3 = b := ⟨_, rfl⟩
     obtain ⟨e2, e5, e10, e11, e12, e13, e17, -⟩ := f8.ks [(2, _), (5, _), (10, _), (11, _), (12, _), (13, _), (17, _)] ⟨e2, e5, e10, e11, e12, e13, e17, trivial⟩
     replace r0 : ownR RowE 36 (((xs.take k).filter rowB) ++ ([(nth xs ((k : Int)))])) (τ8 0) b8x3 w8 := f8.ro 4 e3 rfl
     replace r2 := f8.ib 2 rfl
     have r3 : ownR RowE 36 ([(nth xs ((k : Int)))]) (τ8 3) b8x20 w8 := f8.ro 2 e20 rfl
     clear f8
     show _
     show Code.wp _ _ _ a8 w8
     refine region_St (bf := [0, 1]) (sp := [det _ 22 _, det _ 12 _]) [io r0, Ini.any _, ib r2, io r3] mixed st8 (by kernel_rfl) ⟨r0, trivial, r2, r3, trivial⟩
      ⟨Ob.d fun c => r_add rfl (c.p e12) rfl (by omega),
      Ob.d fun c => r_move rfl (c.n 0 rfl), trivial⟩ ?_
     intro a9 w9 τ9 st9 f9
     obtain ⟨e2, e3, e5, e10, e11, e13, e17, -⟩ := f9.ks [(2, _), (3, _), (5, _), (10, _), (11, _), (13, _), (17, _)] ⟨e2, e3, e5, e10, e11, e13, e17, trivial⟩
     have e12 : get a9 12 = (.int .i64 ((k : Int) + 1)) := f9.v 1 rfl
     replace r0 := f9.io 0 rfl
     replace r2 := f9.ib 2 rfl
     replace r3 := f9.io 3 rfl
     clear f9
     refine ⟨⟨k + 1, b8x3, τ9, ?_, st9, e3, (e12.trans (int_eq (by omega))), e2, e10, e11, ?_⟩, ?_⟩
     · omega
     · exact r0.cast (by first | exact filter_t (by omega) (by assumption) | exact filter_f (by omega) (by assumption))
     · simp only [m12, e12, intOf]; omega
   skip
   refine wp_skip ?_
   show _
   show Code.wp _ _ _ a7 w7
   refine region_St (bf := [0, 1]) (sp := [det _ 22 _, det _ 12 _]) [io r0, Ini.any _, ib r2] mixed st7 (by kernel_rfl) ⟨r0, trivial, r2, trivial⟩
    ⟨Ob.d fun c => r_add rfl (c.p e12) rfl (by omega),
    Ob.d fun c => r_move rfl (c.n 0 rfl), trivial⟩ ?_
   intro a10 w10 τ10 st10 f10
   obtain ⟨e2, e3, e5, e10, e11, e13, e17, -⟩ := f10.ks [(2, _), (3, _), (5, _), (10, _), (11, _), (13, _), (17, _)] ⟨e2, e3, e5, e10, e11, e13, e17, trivial⟩
   have e12 : get a10 12 = (.int .i64 ((k : Int) + 1)) := f10.v 1 rfl
   replace r0 := f10.io 0 rfl
   replace r2 := f10.ib 2 rfl
   clear f10
   refine ⟨⟨k + 1, u, τ10, ?_, st10, e3, (e12.trans (int_eq (by omega))), e2, e10, e11, ?_⟩, ?_⟩
   · omega
   · exact r0.cast (by first | exact filter_t (by omega) (by assumption) | exact filter_f (by omega) (by assumption))
   · simp only [m12, e12, intOf]; omega
 try simp only [decide_eq_false_iff_not, Int.not_lt] at hc1
 refine wp_exit ?_
 repeat (with_reducible refine then_exit ?_)
 refine exit_here ?_
 show Code.wp _ _ _ a5 w5
 refine wp_seq ?_
 refine region_St (bf := [0, 1]) (sp := [det _ 23 _, own _ _ _ 0 3 _]) [io r0] mixed st5 (by kernel_rfl) ⟨r0, trivial⟩
  ⟨Ob.d fun c => r_move rfl (c.p e3),
  Ob.callIn rfl rfl rfl (by decide) (fun _ a_ _ _ c => ⟨_, _, (e_call2 rfl rfl Try.call27 (c.n 0 rfl) rfl), c.p e3, c.io 0 rfl, fun ho_ => rowSort_c u ((xs.take k).filter rowB) _ ho_ (by omega)⟩), trivial⟩ ?_
 intro a11 w11 τ11 st11 f11
 obtain ⟨e2, e3, -⟩ := f11.ks [(2, _), (3, _)] ⟨e2, e3, trivial⟩
 replace r0 : ownR RowE 36 (isort ltR ((xs.take k).filter rowB)) (τ11 0) u w11 := f11.ro 1 e3 rfl
 clear f11
 replace r0 := r0.cast (show isort ltR (xs.filter rowB) = isort ltR ((xs.take k).filter rowB) from by rw [List.take_of_length_le (by omega)])
 have hil := sort_filter_le xs
 show Code.wp _ _ _ a11 w11
 refine wp_seq ?_
 refine region_St (bf := [0]) (sp := [det _ 6 _]) [io r0] mixed st11 (by kernel_rfl) ⟨r0, trivial⟩
  ⟨Ob.d fun c => r_assign rfl rfl, trivial⟩ ?_
 intro a12 w12 τ12 st12 f12
 obtain ⟨e2, e3, -⟩ := f12.ks [(2, _), (3, _)] ⟨e2, e3, trivial⟩
 have e6 : get a12 6 = (.slice none 0 0) := f12.v 0 rfl
 replace r0 := f12.io 0 rfl
 clear f12
 show Code.wp _ _ _ a12 w12
 refine wp_seq ?_
 refine wp_seq ?_
 refine region_St (bf := [0, 1, 0]) (sp := [det _ 25 _, det _ 26 _, det _ 27 _]) [io r0] mixed st12 (by kernel_rfl) ⟨r0, trivial⟩
  ⟨Ob.d fun c => r_move rfl (c.p e3),
  Ob.d fun c => r_len rfl Try.underlying22 (c.n 0 rfl) r0.isSl,
  Ob.d fun c => r_move rfl rfl, trivial⟩ ?_
 intro a13 w13 τ13 st13 f13
 obtain ⟨e2, e6, -⟩ := f13.ks [(2, _), (6, _)] ⟨e2, e6, trivial⟩
 have e25 : get a13 25 = u := f13.v 0 rfl
 have e26 : get a13 26 = (.int .i64 (((isort ltR (xs.filter rowB)).length : Int))) := f13.v 1 rfl
 have e27 : get a13 27 = (.int .i64 (0)) := f13.v 2 rfl
 replace r0 := f13.io 0 rfl
 clear f13
 show Code.wp _ _ _ a13 w13
 refine wp_block ?_
 refine wp_loop (fun a_ w_ => ∃ (i : Nat) (o : Value) (τ : Nat → Foot), (i ≤ (isort ltR (xs.filter rowB)).length) ∧
      St (Nw w) w 64 a_ w_ τ ∧
      get a_ 6 = o ∧
      get a_ 27 = (.int .i64 ((i : Int))) ∧
      get a_ 2 = (.slice none 0 0) ∧
      get a_ 25 = u ∧
      get a_ 26 = (.int .i64 (((isort ltR (xs.filter rowB)).length : Int))) ∧
      ownR RowE 36 (joinT ((isort ltR (xs.filter rowB)).take i)) (τ 1) o w_ ∧
      ownR RowE 36 (isort ltR (xs.filter rowB)) (τ 0) u w_) (fun a_ _ => (isort ltR (xs.filter rowB)).length - (intOf (get a_ 27)).toNat) ?_ ?_
 · refine ⟨0, (.slice none 0 0), τ13, ?_, st13, e6, (e27.trans (int_eq (by omega))), e2, e25, e26, ?_, r0⟩
   · omega
   · exact ownR.nil _ _ _ _
 intro a14 w14 hI
 obtain ⟨i, o, τ14, q0, st14, e6, e27, e2, e25, e26, r1, r0⟩ := hI
 have hjl := joinT_take (xs := (isort ltR (xs.filter rowB))) (k := i)
 have m27 := e27
 refine wp_seq ?_
 refine region_St (bf := [0]) (sp := [det _ 28 _]) [io r0, io r1] mixed st14 (by kernel_rfl) ⟨r0, r1, trivial⟩
  ⟨Ob.d fun c => r_lss rfl (c.p e27) (c.p e26), trivial⟩ ?_
 intro a15 w15 τ15 st15 f15
 obtain ⟨e2, e6, e25, e26, e27, -⟩ := f15.ks [(2, _), (6, _), (25, _), (26, _), (27, _)] ⟨e2, e6, e25, e26, e27, trivial⟩
 have e28 : get a15 28 = (.bool (decide ((i : Int) < ((isort ltR (xs.filter rowB)).length : Int)))) := f15.v 0 rfl
 replace r0 := f15.io 0 rfl
 replace r1 := f15.io 1 rfl
 clear f15
 show Code.wp _ _ _ a15 w15
 refine wp_seq ?_
 refine wp_cond_split (t := decide ((i : Int) < ((isort ltR (xs.filter rowB)).length : Int))) e28 (fun hc3 => ?_) (fun hc3 => ?_)
 · try simp only [decide_eq_true_eq] at hc3
   refine wp_skip ?_
   show Code.wp _ _ _ a15 w15
   refine wp_seq ?_
   refine wp_block ?_
   refine wp_seq ?_
   refine region_St (bf := [0, 1, 0, 7]) (sp := [det _ 29 _, det _ 30 _, box _ _ 2 8 [(.string ((⟨#[]⟩ : ByteArray))), (.string ((⟨#[]⟩ : ByteArray)))], box _ _ 2 8 [(.string ((nth (isort ltR (xs.filter rowB)) ((i : Int))).1)), (.string ((nth (isort ltR (xs.filter rowB)) ((i : Int))).2))]]) [io r0, io r1] mixed st15 (by kernel_rfl) ⟨r0, r1, trivial⟩
    ⟨Ob.d fun c => r_indexAddr rfl Try.underlying22 Try.sizeOf36 (c.p e25) r0.isSl (c.p e27) (by omega) (by omega),
    Ob.d fun c => r_loadN (vs := [(.string ((nth (isort ltR (xs.filter rowB)) ((i : Int))).1)), (.string ((nth (isort ltR (xs.filter rowB)) ((i : Int))).2))]) rfl Try.isAgg36 Try.sizeOf36 (c.n 0 rfl) rfl (fun _ _ hj => ((c.io 0 rfl).1.sl).elem (nth_some (i := (i : Int)) (by omega) (by omega)) hj),
    Ob.alloc rfl rfl rfl rfl Try.zeroValue36 rfl,
    Ob.storeBox (off := 0) (v := (.agg #[(.string ((nth (isort ltR (xs.filter rowB)) ((i : Int))).1)), (.string ((nth (isort ltR (xs.filter rowB)) ((i : Int))).2))])) rfl rfl rfl rfl Try.sizeOf36 (Nat.le_of_ble_eq_true rfl) (by simp [Value.cells, Value.oneCell']) rfl (fun _ _ _ _ c => ⟨c.rb 2 rfl, (c.rb 2 rfl).ptr, (c.n 1 rfl)⟩), trivial⟩ ?_
   intro a16 w16 τ16 st16 f16
   obtain ⟨b16x8, e8⟩ : ∃ b, get a16 8 = b := ⟨_, rfl⟩
   obtain ⟨e2, e6, e25, e26, e27, e28, -⟩ := f16.ks [(2, _), (6, _), (25, _), (26, _), (27, _), (28, _)] ⟨e2, e6, e25, e26, e27, e28, trivial⟩
   replace r0 := f16.io 0 rfl
   replace r1 := f16.io 1 rfl
   have r2 : boxR 36 [(.string ((nth (isort ltR (xs.filter rowB)) ((i : Int))).1)), (.string ((nth (isort ltR (xs.filter rowB)) ((i : Int))).2))] (τ16 2) b16x8 w16 := f16.rb 3 e8 rfl
   clear f16
   show Code.wp _ _ _ a16 w16
   refine wp_seq ?_
   refine wp_seq ?_
   refine region_St (bf := [0, 1, 3, 7]) (sp := [det _ 31 _, det _ 32 _, det _ 33 _, det _ 9 _]) [io r0, io r1, ib r2] mixed st16 (by kernel_rfl) ⟨r0, r1, r2, trivial⟩
    ⟨Ob.d fun c => r_move rfl (c.p e6),
    Ob.d fun c => r_len rfl Try.underlying22 (c.n 0 rfl) r1.isSl,
    Ob.d fun c => r_sub rfl (c.n 1 rfl) rfl (by omega),
    Ob.d fun c => r_assign rfl (c.n 2 rfl), trivial⟩ ?_
   intro a17 w17 τ17 st17 f17
   obtain ⟨e2, e6, e8, e25, e26, e27, e28, -⟩ := f17.ks [(2, _), (6, _), (8, _), (25, _), (26, _), (27, _), (28, _)] ⟨e2, e6, e8, e25, e26, e27, e28, trivial⟩
   have e9 : get a17 9 = (.int .i64 (((joinT ((isort ltR (xs.filter rowB)).take i)).length : Int) - 1)) := f17.v 3 rfl
   replace r0 := f17.io 0 rfl
   replace r1 := f17.io 1 rfl
   replace r2 := f17.ib 2 rfl
   clear f17
   show Code.wp _ _ _ a17 w17
   refine wp_seq ?_
   refine region_St (bf := [0, 1, 3, 7, 15, 7, 7, 103, 231, 487, 1023, 2047]) (sp := [det _ 34 _, det _ 35 _, det _ 36 _, gdet _ 37 _ _, gdet _ 38 _ _, gdet _ 39 _ _, gdet _ 40 _ _, gdet _ 41 _ _, gdet _ 42 _ _, gdet _ 43 _ _, gdet _ 44 _ _, det _ 45 _]) [io r0, io r1, ib r2] mixed st17 (by kernel_rfl) ⟨r0, r1, r2, trivial⟩
    ⟨Ob.d fun c => r_move rfl (c.p e9),
    Ob.d fun c => r_geq rfl (c.n 0 rfl) rfl,
    Ob.d fun c => r_move rfl (c.n 1 rfl),
    Ob.g 2 true rfl fun c hpc => r_fieldAddr rfl Try.underlying36 rfl rfl Try.sizeOf9 ((c.p e8).trans r2.ptr),
    Ob.g 2 true rfl fun c hpc => r_load1 rfl Try.isAgg9 (c.m 3 rfl hpc) ((c.ib 2 rfl).cell (j := 0) rfl),
    Ob.g 2 true rfl fun c hpc => r_move rfl (c.p e6),
    Ob.g 2 true rfl fun c hpc => r_move rfl (c.p e9),
    Ob.g 2 true rfl fun c hpc => r_indexAddr rfl Try.underlying22 Try.sizeOf36 (c.m 5 rfl hpc) r1.isSl (c.m 6 rfl hpc) (by have hq0 := bt hpc; omega) (by have hq0 := bt hpc; omega),
    Ob.g 2 true rfl fun c hpc => r_fieldAddr rfl Try.underlying36 rfl rfl Try.sizeOf9 (c.m 7 rfl hpc),
    Ob.g 2 true rfl fun c hpc => r_load1 rfl Try.isAgg9 (c.m 8 rfl hpc) (((c.io 1 rfl).1.sl).elem (j := 1) (nth_some (i := ((joinT ((isort ltR (xs.filter rowB)).take i)).length : Int) - 1) (by have hq0 := bt hpc; omega) (by have hq0 := bt hpc; omega)) rfl),
    Ob.g 2 true rfl fun c hpc => r_sleq rfl (c.m 4 rfl hpc) (c.m 9 rfl hpc),
    Ob.d fun c => r_and rfl (c.n 2 rfl) (fun h => c.m 10 rfl h), trivial⟩ ?_
   intro a18 w18 τ18 st18 f18
   obtain ⟨e2, e6, e8, e9, e25, e26, e27, e28, -⟩ := f18.ks [(2, _), (6, _), (8, _), (9, _), (25, _), (26, _), (27, _), (28, _)] ⟨e2, e6, e8, e9, e25, e26, e27, e28, trivial⟩
   have e45 : get a18 45 = (.bool ((decide (0 ≤ ((joinT ((isort ltR (xs.filter rowB)).take i)).length : Int) - 1)) && (leT ((nth (isort ltR (xs.filter rowB)) ((i : Int))).1) ((nth (joinT ((isort ltR (xs.filter rowB)).take i)) (((joinT ((isort ltR (xs.filter rowB)).take i)).length : Int) - 1)).2)))) := f18.v 11 rfl
   replace r0 := f18.io 0 rfl
   replace r1 := f18.io 1 rfl
   replace r2 := f18.ib 2 rfl
   clear f18
   show Code.wp _ _ _ a18 w18
   refine wp_cond_split (t := (decide (0 ≤ ((joinT ((isort ltR (xs.filter rowB)).take i)).length : Int) - 1)) && (leT ((nth (isort ltR (xs.filter rowB)) ((i : Int))).1) ((nth (joinT ((isort ltR (xs.filter rowB)).take i)) (((joinT ((isort ltR (xs.filter rowB)).take i)).length : Int) - 1)).2))) e45 (fun hc4 => ?_) (fun hc4 => ?_)
   · have hd4 := hc4; try simp only [Bool.and_eq_true, decide_eq_true_eq] at hd4
     refine wp_seq ?_
     refine region_St (bf := [0, 0, 0, 0, 12, 28, 60, 0, 128, 508, 1023, 2047, 4095]) (sp := [det _ 46 _, det _ 47 _, det _ 48 _, det _ 49 _, det _ 50 _, det _ 51 _, det _ 52 _, det _ 53 _, det _ 54 _, det _ 55 _, det _ 56 _, det _ 57 _, own _ _ _ 1 6 _]) [io r0, io r1, ib r2] mixed st18 (by kernel_rfl) ⟨r0, r1, r2, trivial⟩
      ⟨Ob.d fun c => r_move rfl (c.p e6),
      Ob.d fun c => r_move rfl (c.p e9),
      Ob.d fun c => r_move rfl (c.p e6),
      Ob.d fun c => r_move rfl (c.p e9),
      Ob.d fun c => r_indexAddr rfl Try.underlying22 Try.sizeOf36 (c.n 2 rfl) r1.isSl (c.n 3 rfl) (by omega) (by omega),
      Ob.d fun c => r_fieldAddr rfl Try.underlying36 rfl rfl Try.sizeOf9 (c.n 4 rfl),
      Ob.d fun c => r_load1 rfl Try.isAgg9 (c.n 5 rfl) (((c.io 1 rfl).1.sl).elem (j := 1) (nth_some (i := ((joinT ((isort ltR (xs.filter rowB)).take i)).length : Int) - 1) (by omega) (by omega)) rfl),
      Ob.d fun c => r_fieldAddr rfl Try.underlying36 rfl rfl Try.sizeOf9 ((c.p e8).trans r2.ptr),
      Ob.d fun c => r_load1 rfl Try.isAgg9 (c.n 7 rfl) ((c.ib 2 rfl).cell (j := 1) rfl),
      Ob.d fun c => r_smax rfl (c.n 6 rfl) (c.n 8 rfl),
      Ob.d fun c => r_indexAddr rfl Try.underlying22 Try.sizeOf36 (c.n 0 rfl) r1.isSl (c.n 1 rfl) (by omega) (by omega),
      Ob.d fun c => r_fieldAddr rfl Try.underlying36 rfl rfl Try.sizeOf9 (c.n 10 rfl),
      Ob.storeElem (E := RowE) (i := (((joinT ((isort ltR (xs.filter rowB)).take i)).length : Int) - 1).toNat) (off := 1) (u := (.string (maxT ((nth (joinT ((isort ltR (xs.filter rowB)).take i)) (((joinT ((isort ltR (xs.filter rowB)).take i)).length : Int) - 1)).2) ((nth (isort ltR (xs.filter rowB)) ((i : Int))).2)))) (x := nth (joinT ((isort ltR (xs.filter rowB)).take i)) (((joinT ((isort ltR (xs.filter rowB)).take i)).length : Int) - 1)) (x' := ((nth (joinT ((isort ltR (xs.filter rowB)).take i)) (((joinT ((isort ltR (xs.filter rowB)).take i)).length : Int) - 1)).1, maxT ((nth (joinT ((isort ltR (xs.filter rowB)).take i)) (((joinT ((isort ltR (xs.filter rowB)).take i)).length : Int) - 1)).2) ((nth (isort ltR (xs.filter rowB)) ((i : Int))).2))) rfl rfl rfl rfl Try.sizeOf9 (nth_some (by omega) (by (try simp only [List.length_set]); omega)) (Nat.le_of_ble_eq_true rfl) (by simp [Value.cells, Value.oneCell']) rfl (fun _ a_ _ _ c => ⟨c.ip 1 rfl e6, c.ad (c.n 11 rfl) e6 (by rw [add_add]; rfl), (c.n 9 rfl)⟩), trivial⟩ ?_
     intro a19 w19 τ19 st19 f19
     obtain ⟨e2, e6, e8, e9, e25, e26, e27, e28, e45, -⟩ := f19.ks [(2, _), (6, _), (8, _), (9, _), (25, _), (26, _), (27, _), (28, _), (45, _)] ⟨e2, e6, e8, e9, e25, e26, e27, e28, e45, trivial⟩
     replace r0 := f19.io 0 rfl
     replace r1 : ownR RowE 36 ((joinT ((isort ltR (xs.filter rowB)).take i)).set (((joinT ((isort ltR (xs.filter rowB)).take i)).length : Int) - 1).toNat ((nth (joinT ((isort ltR (xs.filter rowB)).take i)) (((joinT ((isort ltR (xs.filter rowB)).take i)).length : Int) - 1)).1, maxT ((nth (joinT ((isort ltR (xs.filter rowB)).take i)) (((joinT ((isort ltR (xs.filter rowB)).take i)).length : Int) - 1)).2) ((nth (isort ltR (xs.filter rowB)) ((i : Int))).2))) (τ19 1) o w19 := f19.ro 12 e6 rfl
     replace r2 := f19.ib 2 rfl
     clear f19
     show Code.wp _ _ _ a19 w19
     refine wp_exit ?_
     repeat (with_reducible refine then_exit ?_)
     refine exit_here ?_
     show Code.wp _ _ _ a19 w19
     refine region_St (bf := [0, 1]) (sp := [det _ 62 _, det _ 27 _]) [io r0, io r1, ib r2] mixed st19 (by kernel_rfl) ⟨r0, r1, r2, trivial⟩
      ⟨Ob.d fun c => r_add rfl (c.p e27) rfl (by omega),
      Ob.d fun c => r_move rfl (c.n 0 rfl), trivial⟩ ?_
     intro a20 w20 τ20 st20 f20
     obtain ⟨e2, e6, e8, e9, e25, e26, e28, e45, -⟩ := f20.ks [(2, _), (6, _), (8, _), (9, _), (25, _), (26, _), (28, _), (45, _)] ⟨e2, e6, e8, e9, e25, e26, e28, e45, trivial⟩
     have e27 : get a20 27 = (.int .i64 ((i : Int) + 1)) := f20.v 1 rfl
     replace r0 := f20.io 0 rfl
     replace r1 := f20.io 1 rfl
     replace r2 := f20.ib 2 rfl
     clear f20
     refine ⟨⟨i + 1, o, τ20, ?_, st20, e6, (e27.trans (int_eq (by omega))), e2, e25, e26, ?_, r0⟩, ?_⟩
     · omega
     · exact r1.cast (by first | exact joinT_hit (by omega) (by assumption) | exact joinT_miss (by omega) (by assumption))
     · simp only [m27, e27, intOf]; omega
   have hd4 := hc4; try simp only [Bool.and_eq_false_iff, decide_eq_false_iff_not, Int.not_le] at hd4
   refine wp_skip ?_
   show Code.wp _ _ _ a18 w18
   refine region_St (bf := [0, 0, 2, 7, 15]) (sp := [det _ 58 _, det _ 59 _, own RowE 36 _ 3 60 ([(nth (isort ltR (xs.filter rowB)) ((i : Int)))]), own _ _ _ 1 61 _, own _ _ _ 1 6 _]) [io r0, io r1, ib r2] mixed st18 (by kernel_rfl) ⟨r0, r1, r2, trivial⟩
    ⟨Ob.d fun c => r_move rfl (c.p e6),
    Ob.d fun c => r_loadN (vs := [(.string ((nth (isort ltR (xs.filter rowB)) ((i : Int))).1)), (.string ((nth (isort ltR (xs.filter rowB)) ((i : Int))).2))]) rfl Try.isAgg36 Try.sizeOf36 ((c.p e8).trans r2.ptr) rfl (fun _ _ hj => (c.ib 2 rfl).cell hj),
    Ob.buildSlice (cells := #[(.string ((nth (isort ltR (xs.filter rowB)) ((i : Int))).1)), (.string ((nth (isort ltR (xs.filter rowB)) ((i : Int))).2))]) rfl rfl rfl rfl Try.underlying22 Try.sizeOf36 Try.zeroValue36 rfl (by decide) (by decide) (fun _ _ _ _ c => fill1 (c.n 1 rfl) (by kernel_rfl)) rfl,
    Ob.append (t0 := 6) rfl rfl rfl rfl Try.underlying22 (i := Try.t36) rfl rfl rfl rfl (by simp only [maxLen]; (try simp); omega) (by show _ * 32 ≤ _; (try simp); omega) (fun _ _ _ _ c => ⟨c.ip 1 rfl e6, c.sm (c.n 0 rfl) e6, ⟨_, rfl, (c.ro 2 rfl).1.sl⟩⟩),
    Ob.moveT (t0 := 61) rfl rfl rfl rfl rfl (.inr rfl) (fun _ _ _ _ c => ⟨c.ro 3 rfl, rfl⟩), trivial⟩ ?_
   intro a21 w21 τ21 st21 f21
   obtain ⟨b21x60, e60⟩ : ∃ b, get a21 60 = b := ⟨_, rfl⟩
   obtain ⟨b21x6, e6⟩ : ∃ b, get a21 6 = b := ⟨_, rfl⟩
   obtain ⟨e2, e8, e9, e25, e26, e27, e28, e45, -⟩ := f21.ks [(2, _), (8, _), (9, _), (25, _), (26, _), (27, _), (28, _), (45, _)] ⟨e2, e8, e9, e25, e26, e27, e28, e45, trivial⟩
   replace r0 := f21.io 0 rfl
   replace r1 : ownR RowE 36 ((joinT ((isort ltR (xs.filter rowB)).take i)) ++ ([(nth (isort ltR (xs.filter rowB)) ((i : Int)))])) (τ21 1) b21x6 w21 := f21.ro 4 e6 rfl
   replace r2 := f21.ib 2 rfl
   have r3 : ownR RowE 36 ([(nth (isort ltR (xs.filter rowB)) ((i : Int)))]) (τ21 3) b21x60 w21 := f21.ro 2 e60 rfl
   clear f21
   show _
   show Code.wp _ _ _ a21 w21
   refine region_St (bf := [0, 1]) (sp := [det _ 62 _, det _ 27 _]) [io r0, io r1, ib r2, io r3] mixed st21 (by kernel_rfl) ⟨r0, r1, r2, r3, trivial⟩
    ⟨Ob.d fun c => r_add rfl (c.p e27) rfl (by omega),
    Ob.d fun c => r_move rfl (c.n 0 rfl), trivial⟩ ?_
   intro a22 w22 τ22 st22 f22
   obtain ⟨e2, e6, e8, e9, e25, e26, e28, e45, -⟩ := f22.ks [(2, _), (6, _), (8, _), (9, _), (25, _), (26, _), (28, _), (45, _)] ⟨e2, e6, e8, e9, e25, e26, e28, e45, trivial⟩
   have e27 : get a22 27 = (.int .i64 ((i : Int) + 1)) := f22.v 1 rfl
   replace r0 := f22.io 0 rfl
   replace r1 := f22.io 1 rfl
   replace r2 := f22.ib 2 rfl
   replace r3 := f22.io 3 rfl
   clear f22
   refine ⟨⟨i + 1, b21x6, τ22, ?_, st22, e6, (e27.trans (int_eq (by omega))), e2, e25, e26, ?_, r0⟩, ?_⟩
   · omega
   · exact r1.cast (by first | exact joinT_hit (by omega) (by assumption) | exact joinT_miss (by omega) (by assumption))
   · simp only [m27, e27, intOf]; omega
 try simp only [decide_eq_false_iff_not, Int.not_lt] at hc3
 refine wp_exit ?_
 repeat (with_reducible refine then_exit ?_)
 refine exit_here ?_
 show Code.wp _ _ _ a15 w15
 refine wp_seq ?_
 refine region_St (bf := [0, 1]) (sp := [det _ 63 _, det _ 2 _]) [io r0, io r1] mixed st15 (by kernel_rfl) ⟨r0, r1, trivial⟩
  ⟨Ob.d fun c => r_move rfl (c.p e6),
  Ob.d fun c => r_assign rfl (c.n 0 rfl), trivial⟩ ?_
 intro a23 w23 τ23 st23 f23
 have e2 : get a23 2 = o := f23.v 1 rfl
 replace r1 := f23.io 1 rfl
 clear f23
 show Code.wp _ _ _ a23 w23
 refine wp_ret ?_
 repeat (first | with_reducible refine then_ret ?_ | with_reducible refine block_ret ?_)
 refine ret1 (fn := Try.f14) rfl st23.defers e2 ?_
 replace r1 := r1.cast (show unionT xs = _ from by rw [unionT, List.take_of_length_le (l := (isort ltR (xs.filter rowB))) (by omega)])
 exact ⟨_, rfl, st23.ext0, r1.1, fun g_ h_ => (st23.bnd _ g_ (r1.2 g_ h_)).1⟩

set_option maxRecDepth 100000 in
theorem refUnion_c (v : Value) (xs : List (ByteArray × ByteArray)) (w : World) (hS : SlT RowE w v xs) (hz : Small xs) (hbig : xs.length ≤ 1000000000) : Calls Try.prog 15 #[v] w (fun e w' => ∃ v', e = .returned v' ∧ Ext none' w w' ∧ NewT RowE 36 w w' v' (unionT xs)) := by
 refine enter (n := 137) Try.func15 rfl rfl (Nat.le_of_ble_eq_true rfl) ?_
 intro a0 τ0 ha st0
 have e0 : get a0 0 = v := ha 0 _ rfl
 clear ha
 have hle := hS.le
 refine wp_seq ?_
 refine region_St (bf := [0]) (sp := [det _ 2 _]) [] mixed st0 (by kernel_rfl) trivial
  ⟨Ob.d fun c => r_assign rfl rfl, trivial⟩ ?_
 intro a1 w1 τ1 st1 f1
 obtain ⟨e0, -⟩ := f1.ks [(0, _)] ⟨e0, trivial⟩
 have e2 : get a1 2 = (.slice none 0 0) := f1.v 0 rfl
 clear f1
 show Code.wp _ _ _ a1 w1
 refine wp_seq ?_
 refine region_St (bf := [0]) (sp := [det _ 3 _]) [] mixed st1 (by kernel_rfl) trivial
  ⟨Ob.d fun c => r_assign rfl rfl, trivial⟩ ?_
 intro a2 w2 τ2 st2 f2
 obtain ⟨e0, e2, -⟩ := f2.ks [(0, _), (2, _)] ⟨e0, e2, trivial⟩
 have e3 : get a2 3 = (.slice none 0 0) := f2.v 0 rfl
 clear f2
 show Code.wp _ _ _ a2 w2
 refine wp_seq ?_
 refine wp_seq ?_
 refine region_St (bf := [0]) (sp := [det _ 4 _]) [] mixed st2 (by kernel_rfl) trivial
  ⟨Ob.d fun c => r_assign rfl rfl, trivial⟩ ?_
 intro a3 w3 τ3 st3 f3
 obtain ⟨e0, e2, e3, -⟩ := f3.ks [(0, _), (2, _), (3, _)] ⟨e0, e2, e3, trivial⟩
 have e4 : get a3 4 = (.int .i64 (0)) := f3.v 0 rfl
 clear f3
 show Code.wp _ _ _ a3 w3
 refine wp_block ?_
 refine wp_loop (fun a_ w_ => ∃ (i : Nat) (o : Value) (τ : Nat → Foot), (i ≤ xs.length) ∧
      St (Nw w) w 137 a_ w_ τ ∧
      get a_ 3 = o ∧
      get a_ 4 = (.int .i64 ((i : Int))) ∧
      get a_ 0 = v ∧
      get a_ 2 = (.slice none 0 0) ∧
      ownR RowE 36 ((isort ltQ ((xs.take i).filter rowB))) (τ 0) o w_) (fun a_ _ => xs.length - (intOf (get a_ 4)).toNat) ?_ ?_
 · refine ⟨0, (.slice none 0 0), τ3, ?_, st3, e3, (e4.trans (int_eq (by omega))), e0, e2, ?_⟩
   · omega
   · exact ownR.nil _ _ _ _
 intro a4 w4 hI
 obtain ⟨i, o, τ4, q0, st4, e3, e4, e0, e2, r0⟩ := hI
 have hil := isort_length (lt := ltQ) ((xs.take i).filter rowB)
 have hfl := filter_le (f := rowB) (xs := xs) (k := i)
 have hzk := small_at hz (k := i)
 have m4 := e4
 refine wp_seq ?_
 refine wp_seq ?_
 refine region_St (bf := [0, 0, 2, 7]) (sp := [det _ 10 _, det _ 11 _, det _ 12 _, det _ 13 _]) [io r0] mixed st4 (by kernel_rfl) ⟨r0, trivial⟩
  ⟨Ob.d fun c => r_move rfl (c.p e4),
  Ob.d fun c => r_move rfl (c.p e0),
  Ob.d fun c => r_len rfl Try.underlying22 (c.n 1 rfl) hS.sl,
  Ob.d fun c => r_lss rfl (c.n 0 rfl) (c.n 2 rfl), trivial⟩ ?_
 intro a5 w5 τ5 st5 f5
 obtain ⟨e0, e2, e3, e4, -⟩ := f5.ks [(0, _), (2, _), (3, _), (4, _)] ⟨e0, e2, e3, e4, trivial⟩
 have e13 : get a5 13 = (.bool (decide ((i : Int) < (xs.length : Int)))) := f5.v 3 rfl
 replace r0 := f5.io 0 rfl
 clear f5
 show Code.wp _ _ _ a5 w5
 refine wp_cond_split (t := decide ((i : Int) < (xs.length : Int))) e13 (fun hc1 => ?_) (fun hc1 => ?_)
 · try simp only [decide_eq_true_eq] at hc1
   refine wp_skip ?_
   show Code.wp _ _ _ a5 w5
   refine wp_seq ?_
   refine wp_block ?_
   refine wp_seq ?_
   refine region_St (bf := [0, 0, 3, 7, 0, 31]) (sp := [det _ 16 _, det _ 17 _, det _ 18 _, det _ 19 _, box _ _ 2 5 [(.string ((⟨#[]⟩ : ByteArray))), (.string ((⟨#[]⟩ : ByteArray)))], box _ _ 2 5 [(.string ((nth xs ((i : Int))).1)), (.string ((nth xs ((i : Int))).2))]]) [io r0] mixed st5 (by kernel_rfl) ⟨r0, trivial⟩
    ⟨Ob.d fun c => r_move rfl (c.p e0),
    Ob.d fun c => r_move rfl (c.p e4),
    Ob.d fun c => r_indexAddr rfl Try.underlying22 Try.sizeOf36 (c.n 0 rfl) hS.sl (c.n 1 rfl) (by omega) (by omega),
    Ob.d fun c => r_loadN (vs := [(.string ((nth xs ((i : Int))).1)), (.string ((nth xs ((i : Int))).2))]) rfl Try.isAgg36 Try.sizeOf36 (c.n 2 rfl) rfl (fun _ _ hj => ((hS.at (st5.ext.trans c.J.ext))).elem (nth_some (i := (i : Int)) (by omega) (by omega)) hj),
    Ob.alloc rfl rfl rfl rfl Try.zeroValue36 rfl,
    Ob.storeBox (off := 0) (v := (.agg #[(.string ((nth xs ((i : Int))).1)), (.string ((nth xs ((i : Int))).2))])) rfl rfl rfl rfl Try.sizeOf36 (Nat.le_of_ble_eq_true rfl) (by simp [Value.cells, Value.oneCell']) rfl (fun _ _ _ _ c => ⟨c.rb 4 rfl, (c.rb 4 rfl).ptr, (c.n 3 rfl)⟩), trivial⟩ ?_
   intro a6 w6 τ6 st6 f6
   obtain ⟨b6x5, e5⟩ : ∃ b, get a6 5 = b := ⟨_, rfl⟩
   obtain ⟨e0, e2, e3, e4, e13, -⟩ := f6.ks [(0, _), (2, _), (3, _), (4, _), (13, _)] ⟨e0, e2, e3, e4, e13, trivial⟩
   replace r0 := f6.io 0 rfl
   have r2 : boxR 36 [(.string ((nth xs ((i : Int))).1)), (.string ((nth xs ((i : Int))).2))] (τ6 2) b6x5 w6 := f6.rb 5 e5 rfl
   clear f6
   show Code.wp _ _ _ a6 w6
   refine wp_seq ?_
   refine wp_seq ?_
   refine region_St (bf := [0, 1, 3, 7, 15, 31, 63, 127, 255, 511, 1023, 2047, 4095, 2047, 10239, 32767, 65535]) (sp := [det _ 20 _, det _ 21 _, det _ 22 _, det _ 23 _, det _ 24 _, gdet _ 25 _ _, gdet _ 26 _ _, gdet _ 27 _ _, gdet _ 28 _ _, det _ 29 _, det _ 30 _, gdet _ 31 _ _, gdet _ 32 _ _, gdet _ 33 _ _, gdet _ 34 _ _, gdet _ 35 _ _, det _ 36 _]) [io r0, Ini.any _, ib r2] mixed st6 (by kernel_rfl) ⟨r0, trivial, r2, trivial⟩
    ⟨Ob.d fun c => r_fieldAddr rfl Try.underlying36 rfl rfl Try.sizeOf9 ((c.p e5).trans r2.ptr),
    Ob.d fun c => r_load1 rfl Try.isAgg9 (c.n 0 rfl) ((c.ib 2 rfl).cell (j := 0) rfl),
    Ob.c fun c => ⟨_, _, (e_call1 rfl rfl Try.call26 (c.n 1 rfl)), refProper_c ((nth xs ((i : Int))).1) _ (by omega)⟩,
    Ob.d fun c => r_not rfl (c.n 2 rfl),
    Ob.d fun c => r_move rfl (c.n 3 rfl),
    Ob.g 4 false rfl fun c hpc => r_fieldAddr rfl Try.underlying36 rfl rfl Try.sizeOf9 ((c.p e5).trans r2.ptr),
    Ob.g 4 false rfl fun c hpc => r_load1 rfl Try.isAgg9 (c.m 5 rfl hpc) ((c.ib 2 rfl).cell (j := 1) rfl),
    Ob.gc 4 false rfl fun c hpc => ⟨_, _, (e_call1 rfl rfl Try.call26 (c.m 6 rfl hpc)), refProper_c ((nth xs ((i : Int))).2) _ (by have hq0 := hpc; (try simp only [Bool.not_eq_true', Bool.not_eq_false'] at hq0); omega)⟩,
    Ob.g 4 false rfl fun c hpc => r_not rfl (c.m 7 rfl hpc),
    Ob.d fun c => r_or rfl (c.n 4 rfl) (fun h => c.m 8 rfl h),
    Ob.d fun c => r_move rfl (c.n 9 rfl),
    Ob.g 10 false rfl fun c hpc => r_fieldAddr rfl Try.underlying36 rfl rfl Try.sizeOf9 ((c.p e5).trans r2.ptr),
    Ob.g 10 false rfl fun c hpc => r_load1 rfl Try.isAgg9 (c.m 11 rfl hpc) ((c.ib 2 rfl).cell (j := 0) rfl),
    Ob.g 10 false rfl fun c hpc => r_fieldAddr rfl Try.underlying36 rfl rfl Try.sizeOf9 ((c.p e5).trans r2.ptr),
    Ob.g 10 false rfl fun c hpc => r_load1 rfl Try.isAgg9 (c.m 13 rfl hpc) ((c.ib 2 rfl).cell (j := 1) rfl),
    Ob.g 10 false rfl fun c hpc => r_sgtr rfl (c.m 12 rfl hpc) (c.m 14 rfl hpc),
    Ob.d fun c => r_or rfl (c.n 10 rfl) (fun h => c.m 15 rfl h), trivial⟩ ?_
   intro a7 w7 τ7 st7 f7
   obtain ⟨e0, e2, e3, e4, e5, e13, -⟩ := f7.ks [(0, _), (2, _), (3, _), (4, _), (5, _), (13, _)] ⟨e0, e2, e3, e4, e5, e13, trivial⟩
   have e36 : get a7 36 = (.bool (((!(properB ((nth xs ((i : Int))).1))) || (!(properB ((nth xs ((i : Int))).2)))) || (!(leT ((nth xs ((i : Int))).1) ((nth xs ((i : Int))).2))))) := f7.v 16 rfl
   replace r0 := f7.io 0 rfl
   replace r2 := f7.ib 2 rfl
   clear f7
   show Code.wp _ _ _ a7 w7
   refine wp_cond_split (t := ((!(properB ((nth xs ((i : Int))).1))) || (!(properB ((nth xs ((i : Int))).2)))) || (!(leT ((nth xs ((i : Int))).1) ((nth xs ((i : Int))).2)))) e36 (fun hc2 => ?_) (fun hc2 => ?_)
   · have hd2 := hc2; try simp only [Bool.or_eq_true, Bool.or_eq_false_iff, Bool.not_eq_true', Bool.not_eq_false'] at hd2
     refine wp_exit ?_
     repeat (with_reducible refine then_exit ?_)
     refine exit_here ?_
     show Code.wp _ _ _ a7 w7
     refine region_St (bf := [0, 1, 3]) (sp := [det _ 14 _, det _ 15 _, det _ 4 _]) [io r0, Ini.any _, ib r2] mixed st7 (by kernel_rfl) ⟨r0, trivial, r2, trivial⟩
      ⟨Ob.d fun c => r_move rfl (c.p e4),
      Ob.d fun c => r_add rfl (c.n 0 rfl) rfl (by omega),
      Ob.d fun c => r_assign rfl (c.n 1 rfl), trivial⟩ ?_
     intro a8 w8 τ8 st8 f8
     obtain ⟨e0, e2, e3, e5, e13, e36, -⟩ := f8.ks [(0, _), (2, _), (3, _), (5, _), (13, _), (36, _)] ⟨e0, e2, e3, e5, e13, e36, trivial⟩
     have e4 : get a8 4 = (.int .i64 ((i : Int) + 1)) := f8.v 2 rfl
     replace r0 := f8.io 0 rfl
     replace r2 := f8.ib 2 rfl
     clear f8
     refine ⟨⟨i + 1, o, τ8, ?_, st8, e3, (e4.trans (int_eq (by omega))), e0, e2, ?_⟩, ?_⟩
     · omega
     · exact r0.cast (by first | exact refIns_f (by omega) (row_yes (by assumption)) q0 q1 (by assumption) | (rw [filter_f (by omega) (row_no (by assumption))]))
     · simp only [m4, e4, intOf]; omega
   have hd2 := hc2; try simp only [Bool.or_eq_true, Bool.or_eq_false_iff, Bool.not_eq_true', Bool.not_eq_false'] at hd2
   refine wp_skip ?_
   show Code.wp _ _ _ a7 w7
   refine wp_seq ?_
   refine region_St (bf := [0, 1, 3]) (sp := [det _ 37 _, det _ 38 _, det _ 6 _]) [io r0, Ini.any _, ib r2] mixed st7 (by kernel_rfl) ⟨r0, trivial, r2, trivial⟩
    ⟨Ob.d fun c => r_move rfl (c.p e3),
    Ob.d fun c => r_len rfl Try.underlying22 (c.n 0 rfl) r0.isSl,
    Ob.d fun c => r_assign rfl (c.n 1 rfl), trivial⟩ ?_
   intro a9 w9 τ9 st9 f9
   obtain ⟨e0, e2, e3, e4, e5, e13, e36, -⟩ := f9.ks [(0, _), (2, _), (3, _), (4, _), (5, _), (13, _), (36, _)] ⟨e0, e2, e3, e4, e5, e13, e36, trivial⟩
   have e6 : get a9 6 = (.int .i64 (((isort ltQ ((xs.take i).filter rowB)).length : Int))) := f9.v 2 rfl
   replace r0 := f9.io 0 rfl
   replace r2 := f9.ib 2 rfl
   clear f9
   show Code.wp _ _ _ a9 w9
   refine wp_seq ?_
   refine wp_block ?_
   refine wp_loop (fun a_ w_ => ∃ (k : Nat) (τ : Nat → Foot), (k ≤ (isort ltQ ((xs.take i).filter rowB)).length) ∧
          (∀ q ∈ (isort ltQ ((xs.take i).filter rowB)).drop k, ltQ (nth xs (i : Int)) q = true) ∧
          St (Nw w) w 137 a_ w_ τ ∧
          get a_ 6 = (.int .i64 ((k : Int))) ∧
          get a_ 0 = v ∧
          get a_ 2 = (.slice none 0 0) ∧
          get a_ 3 = o ∧
          get a_ 4 = (.int .i64 ((i : Int))) ∧
          get a_ 5 = b6x5 ∧
          get a_ 13 = (.bool (decide ((i : Int) < (xs.length : Int)))) ∧
          get a_ 36 = (.bool (((!(properB ((nth xs ((i : Int))).1))) || (!(properB ((nth xs ((i : Int))).2)))) || (!(leT ((nth xs ((i : Int))).1) ((nth xs ((i : Int))).2))))) ∧
          ownR RowE 36 ((isort ltQ ((xs.take i).filter rowB))) (τ 0) o w_ ∧
          boxR 36 [(.string ((nth xs ((i : Int))).1)), (.string ((nth xs ((i : Int))).2))] (τ 2) b6x5 w_) (fun a_ _ => (intOf (get a_ 6)).toNat) ?_ ?_
   · refine ⟨(isort ltQ ((xs.take i).filter rowB)).length, τ9, ?_, ?_, st9, (e6.trans (int_eq (by omega))), e0, e2, e3, e4, e5, e13, e36, r0, r2⟩
     · omega
     · simp
   intro a10 w10 hI
   obtain ⟨k, τ10, q0, q1, st10, e6, e0, e2, e3, e4, e5, e13, e36, r0, r2⟩ := hI
   have m6 := e6
   refine wp_seq ?_
   refine wp_seq ?_
   refine region_St (bf := [0, 1, 3, 7, 15, 7, 7, 71, 231, 487, 999, 2047, 4095, 8191, 16383, 8191, 8191, 73727, 237567, 499711, 1023999, 2097151, 4194303, 8388607, 16777215, 8388607, 8388607, 75497471, 243269631, 511705087, 1048575999, 2147483647, 4294967295, 8589934591, 17179869183]) (sp := [det _ 39 _, det _ 40 _, det _ 41 _, gdet _ 42 _ _, gdet _ 43 _ _, gdet _ 44 _ _, gdet _ 45 _ _, gdet _ 46 _ _, gdet _ 47 _ _, gdet _ 48 _ _, gdet _ 49 _ _, gdet _ 50 _ _, gdet _ 51 _ _, gdet _ 52 _ _, gdet _ 53 _ _, gdet _ 54 _ _, gdet _ 55 _ _, gdet _ 56 _ _, gdet _ 57 _ _, gdet _ 58 _ _, gdet _ 59 _ _, gdet _ 60 _ _, gdet _ 61 _ _, gdet _ 62 _ _, gdet _ 63 _ _, gdet _ 64 _ _, gdet _ 65 _ _, gdet _ 66 _ _, gdet _ 67 _ _, gdet _ 68 _ _, gdet _ 69 _ _, gdet _ 70 _ _, gdet _ 71 _ _, gdet _ 72 _ _, det _ 73 _]) [io r0, Ini.any _, ib r2] mixed st10 (by kernel_rfl) ⟨r0, trivial, r2, trivial⟩
    ⟨Ob.d fun c => r_move rfl (c.p e6),
    Ob.d fun c => r_gtr rfl (c.n 0 rfl) rfl,
    Ob.d fun c => r_move rfl (c.n 1 rfl),
    Ob.g 2 true rfl fun c hpc => r_fieldAddr rfl Try.underlying36 rfl rfl Try.sizeOf9 ((c.p e5).trans r2.ptr),
    Ob.g 2 true rfl fun c hpc => r_load1 rfl Try.isAgg9 (c.m 3 rfl hpc) ((c.ib 2 rfl).cell (j := 0) rfl),
    Ob.g 2 true rfl fun c hpc => r_move rfl (c.p e3),
    Ob.g 2 true rfl fun c hpc => r_move rfl (c.p e6),
    Ob.g 2 true rfl fun c hpc => r_sub rfl (c.m 6 rfl hpc) rfl (by have hq0 := bt hpc; omega),
    Ob.g 2 true rfl fun c hpc => r_indexAddr rfl Try.underlying22 Try.sizeOf36 (c.m 5 rfl hpc) r0.isSl (c.m 7 rfl hpc) (by have hq0 := bt hpc; omega) (by have hq0 := bt hpc; omega),
    Ob.g 2 true rfl fun c hpc => r_fieldAddr rfl Try.underlying36 rfl rfl Try.sizeOf9 (c.m 8 rfl hpc),
    Ob.g 2 true rfl fun c hpc => r_load1 rfl Try.isAgg9 (c.m 9 rfl hpc) (((c.io 0 rfl).1.sl).elem (j := 0) (nth_some (i := (k : Int) - 1) (by have hq0 := bt hpc; omega) (by have hq0 := bt hpc; omega)) rfl),
    Ob.g 2 true rfl fun c hpc => r_slss rfl (c.m 4 rfl hpc) (c.m 10 rfl hpc),
    Ob.g 2 true rfl fun c hpc => r_move rfl (c.m 11 rfl hpc),
    Ob.gg 12 false rfl fun c hpc => r_fieldAddr rfl Try.underlying36 rfl rfl Try.sizeOf9 ((c.p e5).trans r2.ptr),
    Ob.gg 12 false rfl fun c hpc => r_load1 rfl Try.isAgg9 (c.m 13 rfl hpc) ((c.ib 2 rfl).cell (j := 0) rfl),
    Ob.gg 12 false rfl fun c hpc => r_move rfl (c.p e3),
    Ob.gg 12 false rfl fun c hpc => r_move rfl (c.p e6),
    Ob.gg 12 false rfl fun c hpc => r_sub rfl (c.m 16 rfl hpc) rfl (by have hq0 := hpc.2; have hq1 := bt (hpc.1); omega),
    Ob.gg 12 false rfl fun c hpc => r_indexAddr rfl Try.underlying22 Try.sizeOf36 (c.m 15 rfl hpc) r0.isSl (c.m 17 rfl hpc) (by have hq0 := hpc.2; have hq1 := bt (hpc.1); omega) (by have hq0 := hpc.2; have hq1 := bt (hpc.1); omega),
    Ob.gg 12 false rfl fun c hpc => r_fieldAddr rfl Try.underlying36 rfl rfl Try.sizeOf9 (c.m 18 rfl hpc),
    Ob.gg 12 false rfl fun c hpc => r_load1 rfl Try.isAgg9 (c.m 19 rfl hpc) (((c.io 0 rfl).1.sl).elem (j := 0) (nth_some (i := (k : Int) - 1) (by have hq0 := hpc.2; have hq1 := bt (hpc.1); omega) (by have hq0 := hpc.2; have hq1 := bt (hpc.1); omega)) rfl),
    Ob.gg 12 false rfl fun c hpc => r_seql rfl (c.m 14 rfl hpc) (c.m 20 rfl hpc),
    Ob.gg 12 false rfl fun c hpc => r_move rfl (c.m 21 rfl hpc),
    Ob.gg 22 true rfl fun c hpc => r_fieldAddr rfl Try.underlying36 rfl rfl Try.sizeOf9 ((c.p e5).trans r2.ptr),
    Ob.gg 22 true rfl fun c hpc => r_load1 rfl Try.isAgg9 (c.m 23 rfl hpc) ((c.ib 2 rfl).cell (j := 1) rfl),
    Ob.gg 22 true rfl fun c hpc => r_move rfl (c.p e3),
    Ob.gg 22 true rfl fun c hpc => r_move rfl (c.p e6),
    Ob.gg 22 true rfl fun c hpc => r_sub rfl (c.m 26 rfl hpc) rfl (by have hq0 := hpc.2; have hq1 := hpc.1.2; have hq2 := bt (hpc.1.1); omega),
    Ob.gg 22 true rfl fun c hpc => r_indexAddr rfl Try.underlying22 Try.sizeOf36 (c.m 25 rfl hpc) r0.isSl (c.m 27 rfl hpc) (by have hq0 := hpc.2; have hq1 := hpc.1.2; have hq2 := bt (hpc.1.1); omega) (by have hq0 := hpc.2; have hq1 := hpc.1.2; have hq2 := bt (hpc.1.1); omega),
    Ob.gg 22 true rfl fun c hpc => r_fieldAddr rfl Try.underlying36 rfl rfl Try.sizeOf9 (c.m 28 rfl hpc),
    Ob.gg 22 true rfl fun c hpc => r_load1 rfl Try.isAgg9 (c.m 29 rfl hpc) (((c.io 0 rfl).1.sl).elem (j := 1) (nth_some (i := (k : Int) - 1) (by have hq0 := hpc.2; have hq1 := hpc.1.2; have hq2 := bt (hpc.1.1); omega) (by have hq0 := hpc.2; have hq1 := hpc.1.2; have hq2 := bt (hpc.1.1); omega)) rfl),
    Ob.gg 22 true rfl fun c hpc => r_slss rfl (c.m 24 rfl hpc) (c.m 30 rfl hpc),
    Ob.gg 12 false rfl fun c hpc => r_and rfl (c.m 22 rfl hpc) (fun h => c.m 31 rfl (And.intro hpc h)),
    Ob.g 2 true rfl fun c hpc => r_or rfl (c.m 12 rfl hpc) (fun h => c.m 32 rfl (And.intro hpc h)),
    Ob.d fun c => r_and rfl (c.n 2 rfl) (fun h => c.m 33 rfl h), trivial⟩ ?_
   intro a11 w11 τ11 st11 f11
   obtain ⟨e0, e2, e3, e4, e5, e6, e13, e36, -⟩ := f11.ks [(0, _), (2, _), (3, _), (4, _), (5, _), (6, _), (13, _), (36, _)] ⟨e0, e2, e3, e4, e5, e6, e13, e36, trivial⟩
   have e73 : get a11 73 = (.bool ((decide (0 < (k : Int))) && ((ltT ((nth xs ((i : Int))).1) ((nth (isort ltQ ((xs.take i).filter rowB)) ((k : Int) - 1)).1)) || ((eqT ((nth xs ((i : Int))).1) ((nth (isort ltQ ((xs.take i).filter rowB)) ((k : Int) - 1)).1)) && (ltT ((nth xs ((i : Int))).2) ((nth (isort ltQ ((xs.take i).filter rowB)) ((k : Int) - 1)).2)))))) := f11.v 34 rfl
   replace r0 := f11.io 0 rfl
   replace r2 := f11.ib 2 rfl
   clear f11
   show Code.wp _ _ _ a11 w11
   refine wp_cond_split (t := (decide (0 < (k : Int))) && ((ltT ((nth xs ((i : Int))).1) ((nth (isort ltQ ((xs.take i).filter rowB)) ((k : Int) - 1)).1)) || ((eqT ((nth xs ((i : Int))).1) ((nth (isort ltQ ((xs.take i).filter rowB)) ((k : Int) - 1)).1)) && (ltT ((nth xs ((i : Int))).2) ((nth (isort ltQ ((xs.take i).filter rowB)) ((k : Int) - 1)).2))))) e73 (fun hc3 => ?_) (fun hc3 => ?_)
   · have hd3 := hc3; try simp only [Bool.and_eq_true, Bool.or_eq_true, decide_eq_true_eq] at hd3
     refine wp_skip ?_
     show Code.wp _ _ _ a11 w11
     refine wp_block ?_
     refine region_St (bf := [0, 1, 3]) (sp := [det _ 74 _, det _ 75 _, det _ 6 _]) [io r0, Ini.any _, ib r2] mixed st11 (by kernel_rfl) ⟨r0, trivial, r2, trivial⟩
      ⟨Ob.d fun c => r_move rfl (c.p e6),
      Ob.d fun c => r_sub rfl (c.n 0 rfl) rfl (by omega),
      Ob.d fun c => r_assign rfl (c.n 1 rfl), trivial⟩ ?_
     intro a12 w12 τ12 st12 f12
     obtain ⟨e0, e2, e3, e4, e5, e13, e36, e73, -⟩ := f12.ks [(0, _), (2, _), (3, _), (4, _), (5, _), (13, _), (36, _), (73, _)] ⟨e0, e2, e3, e4, e5, e13, e36, e73, trivial⟩
     have e6 : get a12 6 = (.int .i64 ((k : Int) - 1)) := f12.v 2 rfl
     replace r0 := f12.io 0 rfl
     replace r2 := f12.ib 2 rfl
     clear f12
     show _
     refine ⟨⟨k - 1, τ12, ?_, ?_, st12, (e6.trans (int_eq (by omega))), e0, e2, e3, e4, e5, e13, e36, r0, r2⟩, ?_⟩
     · omega
     · exact down_step (lt := ltQ) (by omega) q0 q1 (and2 (a := decide ((0 : Int) < (k : Int))) (by assumption))
     · simp only [m6, e6, intOf]; omega
   have hd3 := hc3; try simp only [Bool.and_eq_false_iff, Bool.or_eq_false_iff, decide_eq_false_iff_not, Int.not_lt] at hd3
   refine wp_exit ?_
   repeat (with_reducible refine then_exit ?_)
   refine exit_here ?_
   show Code.wp _ _ _ a11 w11
   refine region_St (bf := [0, 0, 0, 6, 15, 0, 32, 127, 0, 0, 768, 2047, 4095]) (sp := [own RowE 36 _ 3 76 ([]), det _ 77 _, det _ 78 _, det _ 79 _, own _ _ _ 3 80 _, det _ 81 _, own RowE 36 _ 4 82 ([(nth xs ((i : Int)))]), own _ _ _ 3 83 _, det _ 84 _, det _ 85 _, det _ 86 _, own _ _ _ 3 87 _, own _ _ _ 3 3 _]) [io r0, Ini.any _, ib r2] mixed st11 (by kernel_rfl) ⟨r0, trivial, r2, trivial⟩
    ⟨Ob.buildEmpty rfl rfl rfl rfl Try.underlying22 Try.sizeOf36,
    Ob.d fun c => r_move rfl (c.p e3),
    Ob.d fun c => r_move rfl (c.p e6),
    Ob.d fun c => r_sliceHi rfl Try.underlying22 Try.sizeOf36 (c.n 1 rfl) r0.isSl (c.n 2 rfl) (by omega) (by omega),
    Ob.append (t0 := 76) rfl rfl rfl rfl Try.underlying22 (i := Try.t36) rfl rfl rfl rfl (by simp only [maxLen]; (try simp); omega) (by show _ * 32 ≤ _; (try simp); omega) (fun _ _ _ _ c => ⟨c.ro 0 rfl, rfl, ⟨_, (c.n 3 rfl), ((c.io 0 rfl).1.sl.sub (lo := 0) (hi := k) (by omega) (by omega))⟩⟩),
    Ob.d fun c => r_loadN (vs := [(.string ((nth xs ((i : Int))).1)), (.string ((nth xs ((i : Int))).2))]) rfl Try.isAgg36 Try.sizeOf36 ((c.p e5).trans r2.ptr) rfl (fun _ _ hj => (c.ib 2 rfl).cell hj),
    Ob.buildSlice (cells := #[(.string ((nth xs ((i : Int))).1)), (.string ((nth xs ((i : Int))).2))]) rfl rfl rfl rfl Try.underlying22 Try.sizeOf36 Try.zeroValue36 rfl (by decide) (by decide) (fun _ _ _ _ c => fill1 (c.n 5 rfl) (by kernel_rfl)) rfl,
    Ob.append (t0 := 80) rfl rfl rfl rfl Try.underlying22 (i := Try.t36) rfl rfl rfl rfl (by simp only [maxLen]; (try simp); omega) (by show _ * 32 ≤ _; (try simp); omega) (fun _ _ _ _ c => ⟨c.ro 4 rfl, rfl, ⟨_, rfl, (c.ro 6 rfl).1.sl⟩⟩),
    Ob.d fun c => r_move rfl (c.p e3),
    Ob.d fun c => r_move rfl (c.p e6),
    Ob.d fun c => r_sliceLo rfl Try.underlying22 Try.sizeOf36 (c.n 8 rfl) r0.isSl (c.n 9 rfl) (by omega) (by omega),
    Ob.append (t0 := 83) rfl rfl rfl rfl Try.underlying22 (i := Try.t36) rfl rfl rfl rfl (by simp only [maxLen]; (try simp); omega) (by show _ * 32 ≤ _; (try simp); omega) (fun _ _ _ _ c => ⟨c.ro 7 rfl, rfl, ⟨_, (c.n 10 rfl), ((c.io 0 rfl).1.sl.sub (lo := k) (hi := (isort ltQ ((xs.take i).filter rowB)).length) (by omega) (by omega))⟩⟩),
    Ob.moveT (t0 := 87) rfl rfl rfl rfl rfl (.inr rfl) (fun _ _ _ _ c => ⟨c.ro 11 rfl, rfl⟩), trivial⟩ ?_
   intro a13 w13 τ13 st13 f13
   obtain ⟨b13x3, e3⟩ : ∃ b, get a13 3 = b := ⟨_, rfl⟩
   obtain ⟨b13x82, e82⟩ : ∃ b, get a13 82 = b := ⟨_, rfl⟩
   obtain ⟨e0, e2, e4, e5, e6, e13, e36, e73, -⟩ := f13.ks [(0, _), (2, _), (4, _), (5, _), (6, _), (13, _), (36, _), (73, _)] ⟨e0, e2, e4, e5, e6, e13, e36, e73, trivial⟩
   replace r0 := f13.io 0 rfl
   replace r2 := f13.ib 2 rfl
   have r3 : ownR RowE 36 (((([]) ++ (((isort ltQ ((xs.take i).filter rowB)).drop 0).take (k - 0))) ++ ([(nth xs ((i : Int)))])) ++ (((isort ltQ ((xs.take i).filter rowB)).drop k).take (((isort ltQ ((xs.take i).filter rowB)).length) - k))) (τ13 3) b13x3 w13 := f13.ro 12 e3 rfl
   have r4 : ownR RowE 36 ([(nth xs ((i : Int)))]) (τ13 4) b13x82 w13 := f13.ro 6 e82 rfl
   clear f13
   show _
   show Code.wp _ _ _ a13 w13
   refine region_St (bf := [0, 1, 3]) (sp := [det _ 14 _, det _ 15 _, det _ 4 _]) [io r0, Ini.any _, ib r2, io r3, io r4] mixed st13 (by kernel_rfl) ⟨r0, trivial, r2, r3, r4, trivial⟩
    ⟨Ob.d fun c => r_move rfl (c.p e4),
    Ob.d fun c => r_add rfl (c.n 0 rfl) rfl (by omega),
    Ob.d fun c => r_assign rfl (c.n 1 rfl), trivial⟩ ?_
   intro a14 w14 τ14 st14 f14
   obtain ⟨e0, e2, e3, e5, e6, e13, e36, e73, -⟩ := f14.ks [(0, _), (2, _), (3, _), (5, _), (6, _), (13, _), (36, _), (73, _)] ⟨e0, e2, e3, e5, e6, e13, e36, e73, trivial⟩
   have e4 : get a14 4 = (.int .i64 ((i : Int) + 1)) := f14.v 2 rfl
   replace r0 := f14.io 0 rfl
   replace r2 := f14.ib 2 rfl
   replace r3 := f14.io 3 rfl
   replace r4 := f14.io 4 rfl
   clear f14
   refine ⟨⟨i + 1, b13x3, (retag τ14 [(0, 3)]), ?_, (st14.retag [(0, 3)] (by decide)), e3, (e4.trans (int_eq (by omega))), e0, e2, ?_⟩, ?_⟩
   · omega
   · exact r3.cast (by first | exact refIns_f (by omega) (row_yes (by assumption)) q0 q1 (by assumption) | (rw [filter_f (by omega) (row_no (by assumption))]))
   · simp only [m4, e4, intOf]; omega
 try simp only [decide_eq_false_iff_not, Int.not_lt] at hc1
 refine wp_exit ?_
 repeat (with_reducible refine then_exit ?_)
 refine exit_here ?_
 show Code.wp _ _ _ a5 w5
 refine wp_seq ?_
 refine region_St (bf := [0]) (sp := [det _ 7 _]) [io r0] mixed st5 (by kernel_rfl) ⟨r0, trivial⟩
  ⟨Ob.d fun c => r_assign rfl rfl, trivial⟩ ?_
 intro a15 w15 τ15 st15 f15
 obtain ⟨e2, e3, -⟩ := f15.ks [(2, _), (3, _)] ⟨e2, e3, trivial⟩
 have e7 : get a15 7 = (.slice none 0 0) := f15.v 0 rfl
 replace r0 := f15.io 0 rfl
 clear f15
 replace r0 := r0.cast (show isort ltR (xs.filter rowB) = (isort ltQ ((xs.take i).filter rowB)) from by rw [List.take_of_length_le (by omega), ltQ_eq])
 have hil := sort_filter_le xs
 show Code.wp _ _ _ a15 w15
 refine wp_seq ?_
 refine wp_seq ?_
 refine region_St (bf := [0]) (sp := [det _ 8 _]) [io r0] mixed st15 (by kernel_rfl) ⟨r0, trivial⟩
  ⟨Ob.d fun c => r_assign rfl rfl, trivial⟩ ?_
 intro a16 w16 τ16 st16 f16
 obtain ⟨e2, e3, e7, -⟩ := f16.ks [(2, _), (3, _), (7, _)] ⟨e2, e3, e7, trivial⟩
 have e8 : get a16 8 = (.int .i64 (0)) := f16.v 0 rfl
 replace r0 := f16.io 0 rfl
 clear f16
 show Code.wp _ _ _ a16 w16
 refine wp_block ?_
 refine wp_loop (fun a_ w_ => ∃ (m : Nat) (u : Value) (τ : Nat → Foot), (m ≤ (isort ltR (xs.filter rowB)).length) ∧
      St (Nw w) w 137 a_ w_ τ ∧
      get a_ 7 = u ∧
      get a_ 8 = (.int .i64 ((m : Int))) ∧
      get a_ 2 = (.slice none 0 0) ∧
      get a_ 3 = o ∧
      ownR RowE 36 (joinT ((isort ltR (xs.filter rowB)).take m)) (τ 1) u w_ ∧
      ownR RowE 36 (isort ltR (xs.filter rowB)) (τ 0) o w_) (fun a_ _ => (isort ltR (xs.filter rowB)).length - (intOf (get a_ 8)).toNat) ?_ ?_
 · refine ⟨0, (.slice none 0 0), τ16, ?_, st16, e7, (e8.trans (int_eq (by omega))), e2, e3, ?_, r0⟩
   · omega
   · exact ownR.nil _ _ _ _
 intro a17 w17 hI
 obtain ⟨m, u, τ17, q0, st17, e7, e8, e2, e3, r1, r0⟩ := hI
 have hjl := joinT_take (xs := (isort ltR (xs.filter rowB))) (k := m)
 have m8 := e8
 refine wp_seq ?_
 refine wp_seq ?_
 refine region_St (bf := [0, 0, 2, 7]) (sp := [det _ 88 _, det _ 89 _, det _ 90 _, det _ 91 _]) [io r0, io r1] mixed st17 (by kernel_rfl) ⟨r0, r1, trivial⟩
  ⟨Ob.d fun c => r_move rfl (c.p e8),
  Ob.d fun c => r_move rfl (c.p e3),
  Ob.d fun c => r_len rfl Try.underlying22 (c.n 1 rfl) r0.isSl,
  Ob.d fun c => r_lss rfl (c.n 0 rfl) (c.n 2 rfl), trivial⟩ ?_
 intro a18 w18 τ18 st18 f18
 obtain ⟨e2, e3, e7, e8, -⟩ := f18.ks [(2, _), (3, _), (7, _), (8, _)] ⟨e2, e3, e7, e8, trivial⟩
 have e91 : get a18 91 = (.bool (decide ((m : Int) < ((isort ltR (xs.filter rowB)).length : Int)))) := f18.v 3 rfl
 replace r0 := f18.io 0 rfl
 replace r1 := f18.io 1 rfl
 clear f18
 show Code.wp _ _ _ a18 w18
 refine wp_cond_split (t := decide ((m : Int) < ((isort ltR (xs.filter rowB)).length : Int))) e91 (fun hc4 => ?_) (fun hc4 => ?_)
 · try simp only [decide_eq_true_eq] at hc4
   refine wp_skip ?_
   show Code.wp _ _ _ a18 w18
   refine wp_seq ?_
   refine wp_block ?_
   refine wp_seq ?_
   refine region_St (bf := [0, 1, 3]) (sp := [det _ 94 _, det _ 95 _, det _ 9 _]) [io r0, io r1] mixed st18 (by kernel_rfl) ⟨r0, r1, trivial⟩
    ⟨Ob.d fun c => r_move rfl (c.p e7),
    Ob.d fun c => r_len rfl Try.underlying22 (c.n 0 rfl) r1.isSl,
    Ob.d fun c => r_assign rfl (c.n 1 rfl), trivial⟩ ?_
   intro a19 w19 τ19 st19 f19
   obtain ⟨e2, e3, e7, e8, e91, -⟩ := f19.ks [(2, _), (3, _), (7, _), (8, _), (91, _)] ⟨e2, e3, e7, e8, e91, trivial⟩
   have e9 : get a19 9 = (.int .i64 (((joinT ((isort ltR (xs.filter rowB)).take m)).length : Int))) := f19.v 2 rfl
   replace r0 := f19.io 0 rfl
   replace r1 := f19.io 1 rfl
   clear f19
   show Code.wp _ _ _ a19 w19
   refine wp_seq ?_
   refine region_St (bf := [0, 1, 3, 7, 7, 31, 63, 127, 7, 7, 519, 1799, 3847, 7943, 16383, 32767]) (sp := [det _ 96 _, det _ 97 _, det _ 98 _, gdet _ 99 _ _, gdet _ 100 _ _, gdet _ 101 _ _, gdet _ 102 _ _, gdet _ 103 _ _, gdet _ 104 _ _, gdet _ 105 _ _, gdet _ 106 _ _, gdet _ 107 _ _, gdet _ 108 _ _, gdet _ 109 _ _, gdet _ 110 _ _, det _ 111 _]) [io r0, io r1] mixed st19 (by kernel_rfl) ⟨r0, r1, trivial⟩
    ⟨Ob.d fun c => r_move rfl (c.p e9),
    Ob.d fun c => r_gtr rfl (c.n 0 rfl) rfl,
    Ob.d fun c => r_move rfl (c.n 1 rfl),
    Ob.g 2 true rfl fun c hpc => r_move rfl (c.p e3),
    Ob.g 2 true rfl fun c hpc => r_move rfl (c.p e8),
    Ob.g 2 true rfl fun c hpc => r_indexAddr rfl Try.underlying22 Try.sizeOf36 (c.m 3 rfl hpc) r0.isSl (c.m 4 rfl hpc) (by have hq0 := bt hpc; omega) (by have hq0 := bt hpc; omega),
    Ob.g 2 true rfl fun c hpc => r_fieldAddr rfl Try.underlying36 rfl rfl Try.sizeOf9 (c.m 5 rfl hpc),
    Ob.g 2 true rfl fun c hpc => r_load1 rfl Try.isAgg9 (c.m 6 rfl hpc) (((c.io 0 rfl).1.sl).elem (j := 0) (nth_some (i := (m : Int)) (by have hq0 := bt hpc; omega) (by have hq0 := bt hpc; omega)) rfl),
    Ob.g 2 true rfl fun c hpc => r_move rfl (c.p e7),
    Ob.g 2 true rfl fun c hpc => r_move rfl (c.p e9),
    Ob.g 2 true rfl fun c hpc => r_sub rfl (c.m 9 rfl hpc) rfl (by have hq0 := bt hpc; omega),
    Ob.g 2 true rfl fun c hpc => r_indexAddr rfl Try.underlying22 Try.sizeOf36 (c.m 8 rfl hpc) r1.isSl (c.m 10 rfl hpc) (by have hq0 := bt hpc; omega) (by have hq0 := bt hpc; omega),
    Ob.g 2 true rfl fun c hpc => r_fieldAddr rfl Try.underlying36 rfl rfl Try.sizeOf9 (c.m 11 rfl hpc),
    Ob.g 2 true rfl fun c hpc => r_load1 rfl Try.isAgg9 (c.m 12 rfl hpc) (((c.io 1 rfl).1.sl).elem (j := 1) (nth_some (i := ((joinT ((isort ltR (xs.filter rowB)).take m)).length : Int) - 1) (by have hq0 := bt hpc; omega) (by have hq0 := bt hpc; omega)) rfl),
    Ob.g 2 true rfl fun c hpc => r_sleq rfl (c.m 7 rfl hpc) (c.m 13 rfl hpc),
    Ob.d fun c => r_and rfl (c.n 2 rfl) (fun h => c.m 14 rfl h), trivial⟩ ?_
   intro a20 w20 τ20 st20 f20
   obtain ⟨e2, e3, e7, e8, e9, e91, -⟩ := f20.ks [(2, _), (3, _), (7, _), (8, _), (9, _), (91, _)] ⟨e2, e3, e7, e8, e9, e91, trivial⟩
   have e111 : get a20 111 = (.bool ((decide (0 < ((joinT ((isort ltR (xs.filter rowB)).take m)).length : Int))) && (leT ((nth (isort ltR (xs.filter rowB)) ((m : Int))).1) ((nth (joinT ((isort ltR (xs.filter rowB)).take m)) (((joinT ((isort ltR (xs.filter rowB)).take m)).length : Int) - 1)).2)))) := f20.v 15 rfl
   replace r0 := f20.io 0 rfl
   replace r1 := f20.io 1 rfl
   clear f20
   show Code.wp _ _ _ a20 w20
   refine wp_cond_split (t := (decide (0 < ((joinT ((isort ltR (xs.filter rowB)).take m)).length : Int))) && (leT ((nth (isort ltR (xs.filter rowB)) ((m : Int))).1) ((nth (joinT ((isort ltR (xs.filter rowB)).take m)) (((joinT ((isort ltR (xs.filter rowB)).take m)).length : Int) - 1)).2))) e111 (fun hc5 => ?_) (fun hc5 => ?_)
   · have hd5 := hc5; try simp only [Bool.and_eq_true, decide_eq_true_eq] at hd5
     refine region_St (bf := [0, 0, 2, 0, 0, 16, 56, 120, 248, 0, 0, 1536, 3584, 7680, 16376, 32767, 65535, 131071]) (sp := [det _ 112 _, det _ 113 _, det _ 114 _, det _ 115 _, det _ 116 _, det _ 117 _, det _ 118 _, det _ 119 _, det _ 120 _, det _ 121 _, det _ 122 _, det _ 123 _, det _ 124 _, det _ 125 _, det _ 126 _, det _ 127 _, det _ 128 _, own _ _ _ 1 7 _]) [io r0, io r1] mixed st20 (by kernel_rfl) ⟨r0, r1, trivial⟩
      ⟨Ob.d fun c => r_move rfl (c.p e7),
      Ob.d fun c => r_move rfl (c.p e9),
      Ob.d fun c => r_sub rfl (c.n 1 rfl) rfl (by omega),
      Ob.d fun c => r_move rfl (c.p e7),
      Ob.d fun c => r_move rfl (c.p e9),
      Ob.d fun c => r_sub rfl (c.n 4 rfl) rfl (by omega),
      Ob.d fun c => r_indexAddr rfl Try.underlying22 Try.sizeOf36 (c.n 3 rfl) r1.isSl (c.n 5 rfl) (by omega) (by omega),
      Ob.d fun c => r_fieldAddr rfl Try.underlying36 rfl rfl Try.sizeOf9 (c.n 6 rfl),
      Ob.d fun c => r_load1 rfl Try.isAgg9 (c.n 7 rfl) (((c.io 1 rfl).1.sl).elem (j := 1) (nth_some (i := ((joinT ((isort ltR (xs.filter rowB)).take m)).length : Int) - 1) (by omega) (by omega)) rfl),
      Ob.d fun c => r_move rfl (c.p e3),
      Ob.d fun c => r_move rfl (c.p e8),
      Ob.d fun c => r_indexAddr rfl Try.underlying22 Try.sizeOf36 (c.n 9 rfl) r0.isSl (c.n 10 rfl) (by omega) (by omega),
      Ob.d fun c => r_fieldAddr rfl Try.underlying36 rfl rfl Try.sizeOf9 (c.n 11 rfl),
      Ob.d fun c => r_load1 rfl Try.isAgg9 (c.n 12 rfl) (((c.io 0 rfl).1.sl).elem (j := 1) (nth_some (i := (m : Int)) (by omega) (by omega)) rfl),
      Ob.d fun c => r_smax rfl (c.n 8 rfl) (c.n 13 rfl),
      Ob.d fun c => r_indexAddr rfl Try.underlying22 Try.sizeOf36 (c.n 0 rfl) r1.isSl (c.n 2 rfl) (by omega) (by omega),
      Ob.d fun c => r_fieldAddr rfl Try.underlying36 rfl rfl Try.sizeOf9 (c.n 15 rfl),
      Ob.storeElem (E := RowE) (i := (((joinT ((isort ltR (xs.filter rowB)).take m)).length : Int) - 1).toNat) (off := 1) (u := (.string (maxT ((nth (joinT ((isort ltR (xs.filter rowB)).take m)) (((joinT ((isort ltR (xs.filter rowB)).take m)).length : Int) - 1)).2) ((nth (isort ltR (xs.filter rowB)) ((m : Int))).2)))) (x := nth (joinT ((isort ltR (xs.filter rowB)).take m)) (((joinT ((isort ltR (xs.filter rowB)).take m)).length : Int) - 1)) (x' := ((nth (joinT ((isort ltR (xs.filter rowB)).take m)) (((joinT ((isort ltR (xs.filter rowB)).take m)).length : Int) - 1)).1, maxT ((nth (joinT ((isort ltR (xs.filter rowB)).take m)) (((joinT ((isort ltR (xs.filter rowB)).take m)).length : Int) - 1)).2) ((nth (isort ltR (xs.filter rowB)) ((m : Int))).2))) rfl rfl rfl rfl Try.sizeOf9 (nth_some (by omega) (by (try simp only [List.length_set]); omega)) (Nat.le_of_ble_eq_true rfl) (by simp [Value.cells, Value.oneCell']) rfl (fun _ a_ _ _ c => ⟨c.ip 1 rfl e7, c.ad (c.n 16 rfl) e7 (by rw [add_add]; rfl), (c.n 14 rfl)⟩), trivial⟩ ?_
     intro a21 w21 τ21 st21 f21
     obtain ⟨e2, e3, e7, e8, e9, e91, e111, -⟩ := f21.ks [(2, _), (3, _), (7, _), (8, _), (9, _), (91, _), (111, _)] ⟨e2, e3, e7, e8, e9, e91, e111, trivial⟩
     replace r0 := f21.io 0 rfl
     replace r1 : ownR RowE 36 ((joinT ((isort ltR (xs.filter rowB)).take m)).set (((joinT ((isort ltR (xs.filter rowB)).take m)).length : Int) - 1).toNat ((nth (joinT ((isort ltR (xs.filter rowB)).take m)) (((joinT ((isort ltR (xs.filter rowB)).take m)).length : Int) - 1)).1, maxT ((nth (joinT ((isort ltR (xs.filter rowB)).take m)) (((joinT ((isort ltR (xs.filter rowB)).take m)).length : Int) - 1)).2) ((nth (isort ltR (xs.filter rowB)) ((m : Int))).2))) (τ21 1) u w21 := f21.ro 17 e7 rfl
     clear f21
     show _
     show Code.wp _ _ _ a21 w21
     refine region_St (bf := [0, 1, 3]) (sp := [det _ 92 _, det _ 93 _, det _ 8 _]) [io r0, io r1] mixed st21 (by kernel_rfl) ⟨r0, r1, trivial⟩
      ⟨Ob.d fun c => r_move rfl (c.p e8),
      Ob.d fun c => r_add rfl (c.n 0 rfl) rfl (by omega),
      Ob.d fun c => r_assign rfl (c.n 1 rfl), trivial⟩ ?_
     intro a22 w22 τ22 st22 f22
     obtain ⟨e2, e3, e7, e9, e91, e111, -⟩ := f22.ks [(2, _), (3, _), (7, _), (9, _), (91, _), (111, _)] ⟨e2, e3, e7, e9, e91, e111, trivial⟩
     have e8 : get a22 8 = (.int .i64 ((m : Int) + 1)) := f22.v 2 rfl
     replace r0 := f22.io 0 rfl
     replace r1 := f22.io 1 rfl
     clear f22
     refine ⟨⟨m + 1, u, τ22, ?_, st22, e7, (e8.trans (int_eq (by omega))), e2, e3, ?_, r0⟩, ?_⟩
     · omega
     · exact r1.cast (by first | exact joinT_hit (by omega) (hitT_ref (by assumption)) | exact joinT_miss (by omega) (hitT_ref (by assumption)))
     · simp only [m8, e8, intOf]; omega
   have hd5 := hc5; try simp only [Bool.and_eq_false_iff, decide_eq_false_iff_not, Int.not_lt] at hd5
   refine region_St (bf := [0, 0, 0, 6, 14, 30, 63, 127]) (sp := [det _ 129 _, det _ 130 _, det _ 131 _, det _ 132 _, det _ 133 _, own RowE 36 _ 2 134 ([(nth (isort ltR (xs.filter rowB)) ((m : Int)))]), own _ _ _ 1 135 _, own _ _ _ 1 7 _]) [io r0, io r1] mixed st20 (by kernel_rfl) ⟨r0, r1, trivial⟩
    ⟨Ob.d fun c => r_move rfl (c.p e7),
    Ob.d fun c => r_move rfl (c.p e3),
    Ob.d fun c => r_move rfl (c.p e8),
    Ob.d fun c => r_indexAddr rfl Try.underlying22 Try.sizeOf36 (c.n 1 rfl) r0.isSl (c.n 2 rfl) (by omega) (by omega),
    Ob.d fun c => r_loadN (vs := [(.string ((nth (isort ltR (xs.filter rowB)) ((m : Int))).1)), (.string ((nth (isort ltR (xs.filter rowB)) ((m : Int))).2))]) rfl Try.isAgg36 Try.sizeOf36 (c.n 3 rfl) rfl (fun _ _ hj => ((c.io 0 rfl).1.sl).elem (nth_some (i := (m : Int)) (by omega) (by omega)) hj),
    Ob.buildSlice (cells := #[(.string ((nth (isort ltR (xs.filter rowB)) ((m : Int))).1)), (.string ((nth (isort ltR (xs.filter rowB)) ((m : Int))).2))]) rfl rfl rfl rfl Try.underlying22 Try.sizeOf36 Try.zeroValue36 rfl (by decide) (by decide) (fun _ _ _ _ c => fill1 (c.n 4 rfl) (by kernel_rfl)) rfl,
    Ob.append (t0 := 7) rfl rfl rfl rfl Try.underlying22 (i := Try.t36) rfl rfl rfl rfl (by simp only [maxLen]; (try simp); omega) (by show _ * 32 ≤ _; (try simp); omega) (fun _ _ _ _ c => ⟨c.ip 1 rfl e7, c.sm (c.n 0 rfl) e7, ⟨_, rfl, (c.ro 5 rfl).1.sl⟩⟩),
    Ob.moveT (t0 := 135) rfl rfl rfl rfl rfl (.inr rfl) (fun _ _ _ _ c => ⟨c.ro 6 rfl, rfl⟩), trivial⟩ ?_
   intro a23 w23 τ23 st23 f23
   obtain ⟨b23x134, e134⟩ : ∃ b, get a23 134 = b := ⟨_, rfl⟩
   obtain ⟨b23x7, e7⟩ : ∃ b, get a23 7 = b := ⟨_, rfl⟩
   obtain ⟨e2, e3, e8, e9, e91, e111, -⟩ := f23.ks [(2, _), (3, _), (8, _), (9, _), (91, _), (111, _)] ⟨e2, e3, e8, e9, e91, e111, trivial⟩
   replace r0 := f23.io 0 rfl
   replace r1 : ownR RowE 36 ((joinT ((isort ltR (xs.filter rowB)).take m)) ++ ([(nth (isort ltR (xs.filter rowB)) ((m : Int)))])) (τ23 1) b23x7 w23 := f23.ro 7 e7 rfl
   have r2 : ownR RowE 36 ([(nth (isort ltR (xs.filter rowB)) ((m : Int)))]) (τ23 2) b23x134 w23 := f23.ro 5 e134 rfl
   clear f23
   show _
   show Code.wp _ _ _ a23 w23
   refine region_St (bf := [0, 1, 3]) (sp := [det _ 92 _, det _ 93 _, det _ 8 _]) [io r0, io r1, io r2] mixed st23 (by kernel_rfl) ⟨r0, r1, r2, trivial⟩
    ⟨Ob.d fun c => r_move rfl (c.p e8),
    Ob.d fun c => r_add rfl (c.n 0 rfl) rfl (by omega),
    Ob.d fun c => r_assign rfl (c.n 1 rfl), trivial⟩ ?_
   intro a24 w24 τ24 st24 f24
   obtain ⟨e2, e3, e7, e9, e91, e111, -⟩ := f24.ks [(2, _), (3, _), (7, _), (9, _), (91, _), (111, _)] ⟨e2, e3, e7, e9, e91, e111, trivial⟩
   have e8 : get a24 8 = (.int .i64 ((m : Int) + 1)) := f24.v 2 rfl
   replace r0 := f24.io 0 rfl
   replace r1 := f24.io 1 rfl
   replace r2 := f24.io 2 rfl
   clear f24
   refine ⟨⟨m + 1, b23x7, τ24, ?_, st24, e7, (e8.trans (int_eq (by omega))), e2, e3, ?_, r0⟩, ?_⟩
   · omega
   · exact r1.cast (by first | exact joinT_hit (by omega) (hitT_ref (by assumption)) | exact joinT_miss (by omega) (hitT_ref (by assumption)))
   · simp only [m8, e8, intOf]; omega
 try simp only [decide_eq_false_iff_not, Int.not_lt] at hc4
 refine wp_exit ?_
 repeat (with_reducible refine then_exit ?_)
 refine exit_here ?_
 show Code.wp _ _ _ a18 w18
 refine wp_seq ?_
 refine region_St (bf := [0, 1]) (sp := [det _ 136 _, det _ 2 _]) [io r0, io r1] mixed st18 (by kernel_rfl) ⟨r0, r1, trivial⟩
  ⟨Ob.d fun c => r_move rfl (c.p e7),
  Ob.d fun c => r_assign rfl (c.n 0 rfl), trivial⟩ ?_
 intro a25 w25 τ25 st25 f25
 have e2 : get a25 2 = u := f25.v 1 rfl
 replace r1 := f25.io 1 rfl
 clear f25
 show Code.wp _ _ _ a25 w25
 refine wp_ret ?_
 repeat (first | with_reducible refine then_ret ?_ | with_reducible refine block_ret ?_)
 refine ret1 (fn := Try.f15) rfl st25.defers e2 ?_
 replace r1 := r1.cast (show unionT xs = _ from by rw [unionT, List.take_of_length_le (l := (isort ltR (xs.filter rowB))) (by omega)])
 exact ⟨_, rfl, st25.ext0, r1.1, fun g_ h_ => (st25.bnd _ g_ (r1.2 g_ h_)).1⟩

set_option maxRecDepth 100000 in
theorem in_c (v : Value) (xs : List (ByteArray × ByteArray)) (s : ByteArray) (w : World) (hS : SlT RowE w v xs) : Calls Try.prog 31 #[v, (.string (s))] w (fun e w' => e = .returned (.bool (inR xs s)) ∧ Ext none' w w') := by
 refine enter (n := 24) Try.func31 rfl rfl (Nat.le_of_ble_eq_true rfl) ?_
 intro a0 τ0 ha st0
 have e0 : get a0 0 = v := ha 0 _ rfl
 have e1 : get a0 1 = (.string (s)) := ha 1 _ rfl
 clear ha
 have hle := hS.le
 refine wp_seq ?_
 refine region_St (bf := [0]) (sp := [det _ 4 _]) [] mixed st0 (by kernel_rfl) trivial
  ⟨Ob.d fun c => r_assign rfl rfl, trivial⟩ ?_
 intro a1 w1 τ1 st1 f1
 obtain ⟨e0, e1, -⟩ := f1.ks [(0, _), (1, _)] ⟨e0, e1, trivial⟩
 have e4 : get a1 4 = (.bool (false)) := f1.v 0 rfl
 clear f1
 show Code.wp _ _ _ a1 w1
 refine wp_seq ?_
 refine wp_seq ?_
 refine region_St (bf := [0, 1, 0]) (sp := [det _ 7 _, det _ 8 _, det _ 9 _]) [] mixed st1 (by kernel_rfl) trivial
  ⟨Ob.d fun c => r_move rfl (c.p e0),
  Ob.d fun c => r_len rfl Try.underlying22 (c.n 0 rfl) hS.sl,
  Ob.d fun c => r_move rfl rfl, trivial⟩ ?_
 intro a2 w2 τ2 st2 f2
 obtain ⟨e1, e4, -⟩ := f2.ks [(1, _), (4, _)] ⟨e1, e4, trivial⟩
 have e7 : get a2 7 = v := f2.v 0 rfl
 have e8 : get a2 8 = (.int .i64 ((xs.length : Int))) := f2.v 1 rfl
 have e9 : get a2 9 = (.int .i64 (0)) := f2.v 2 rfl
 clear f2
 show Code.wp _ _ _ a2 w2
 refine wp_block ?_
 refine wp_loop (fun a_ w_ => ∃ (k : Nat) (τ : Nat → Foot), (k ≤ xs.length) ∧
      (∀ i < k, (leT (nth xs ((i : Nat) : Int)).1 s && leT s (nth xs ((i : Nat) : Int)).2) = false) ∧
      St (Nw w) w 24 a_ w_ τ ∧
      get a_ 9 = (.int .i64 ((k : Int))) ∧
      get a_ 1 = (.string (s)) ∧
      get a_ 7 = v ∧
      get a_ 8 = (.int .i64 ((xs.length : Int)))) (fun a_ _ => xs.length - (intOf (get a_ 9)).toNat) ?_ ?_
 · refine ⟨0, τ2, ?_, ?_, st2, (e9.trans (int_eq (by omega))), e1, e7, e8⟩
   · omega
   · intro i hi; omega
 intro a3 w3 hI
 obtain ⟨k, τ3, q0, q1, st3, e9, e1, e7, e8⟩ := hI
 have m9 := e9
 refine wp_seq ?_
 refine region_St (bf := [0]) (sp := [det _ 10 _]) [] mixed st3 (by kernel_rfl) trivial
  ⟨Ob.d fun c => r_lss rfl (c.p e9) (c.p e8), trivial⟩ ?_
 intro a4 w4 τ4 st4 f4
 obtain ⟨e1, e7, e8, e9, -⟩ := f4.ks [(1, _), (7, _), (8, _), (9, _)] ⟨e1, e7, e8, e9, trivial⟩
 have e10 : get a4 10 = (.bool (decide ((k : Int) < (xs.length : Int)))) := f4.v 0 rfl
 clear f4
 show Code.wp _ _ _ a4 w4
 refine wp_seq ?_
 refine wp_cond_split (t := decide ((k : Int) < (xs.length : Int))) e10 (fun hc1 => ?_) (fun hc1 => ?_)
 · try simp only [decide_eq_true_eq] at hc1
   refine wp_skip ?_
   show Code.wp _ _ _ a4 w4
   refine wp_seq ?_
   refine wp_block ?_
   refine wp_seq ?_
   refine region_St (bf := [0, 1, 0, 7]) (sp := [det _ 11 _, det _ 12 _, box _ _ 0 6 [(.string ((⟨#[]⟩ : ByteArray))), (.string ((⟨#[]⟩ : ByteArray)))], box _ _ 0 6 [(.string ((nth xs ((k : Int))).1)), (.string ((nth xs ((k : Int))).2))]]) [] mixed st4 (by kernel_rfl) trivial
    ⟨Ob.d fun c => r_indexAddr rfl Try.underlying22 Try.sizeOf36 (c.p e7) hS.sl (c.p e9) (by omega) (by omega),
    Ob.d fun c => r_loadN (vs := [(.string ((nth xs ((k : Int))).1)), (.string ((nth xs ((k : Int))).2))]) rfl Try.isAgg36 Try.sizeOf36 (c.n 0 rfl) rfl (fun _ _ hj => ((hS.at (st4.ext.trans c.J.ext))).elem (nth_some (i := (k : Int)) (by omega) (by omega)) hj),
    Ob.alloc rfl rfl rfl rfl Try.zeroValue36 rfl,
    Ob.storeBox (off := 0) (v := (.agg #[(.string ((nth xs ((k : Int))).1)), (.string ((nth xs ((k : Int))).2))])) rfl rfl rfl rfl Try.sizeOf36 (Nat.le_of_ble_eq_true rfl) (by simp [Value.cells, Value.oneCell']) rfl (fun _ _ _ _ c => ⟨c.rb 2 rfl, (c.rb 2 rfl).ptr, (c.n 1 rfl)⟩), trivial⟩ ?_
   intro a5 w5 τ5 st5 f5
   obtain ⟨b5x6, e6⟩ : ∃ b, get a5 6 = b := ⟨_, rfl⟩
   obtain ⟨e1, e7, e8, e9, e10, -⟩ := f5.ks [(1, _), (7, _), (8, _), (9, _), (10, _)] ⟨e1, e7, e8, e9, e10, trivial⟩
   have r0 : boxR 36 [(.string ((nth xs ((k : Int))).1)), (.string ((nth xs ((k : Int))).2))] (τ5 0) b5x6 w5 := f5.rb 3 e6 rfl
   clear f5
   show Code.wp _ _ _ a5 w5
   refine wp_seq ?_
   refine region_St (bf := [0, 1, 0, 7, 15, 31, 31, 95, 255, 511]) (sp := [det _ 13 _, det _ 14 _, det _ 15 _, det _ 16 _, det _ 17 _, gdet _ 18 _ _, gdet _ 19 _ _, gdet _ 20 _ _, gdet _ 21 _ _, det _ 22 _]) [ib r0] mixed st5 (by kernel_rfl) ⟨r0, trivial⟩
    ⟨Ob.d fun c => r_fieldAddr rfl Try.underlying36 rfl rfl Try.sizeOf9 ((c.p e6).trans r0.ptr),
    Ob.d fun c => r_load1 rfl Try.isAgg9 (c.n 0 rfl) ((c.ib 0 rfl).cell (j := 0) rfl),
    Ob.d fun c => r_move rfl (c.p e1),
    Ob.d fun c => r_sleq rfl (c.n 1 rfl) (c.n 2 rfl),
    Ob.d fun c => r_move rfl (c.n 3 rfl),
    Ob.g 4 true rfl fun c hpc => r_move rfl (c.p e1),
    Ob.g 4 true rfl fun c hpc => r_fieldAddr rfl Try.underlying36 rfl rfl Try.sizeOf9 ((c.p e6).trans r0.ptr),
    Ob.g 4 true rfl fun c hpc => r_load1 rfl Try.isAgg9 (c.m 6 rfl hpc) ((c.ib 0 rfl).cell (j := 1) rfl),
    Ob.g 4 true rfl fun c hpc => r_sleq rfl (c.m 5 rfl hpc) (c.m 7 rfl hpc),
    Ob.d fun c => r_and rfl (c.n 4 rfl) (fun h => c.m 8 rfl h), trivial⟩ ?_
   intro a6 w6 τ6 st6 f6
   obtain ⟨e1, e6, e7, e8, e9, e10, -⟩ := f6.ks [(1, _), (6, _), (7, _), (8, _), (9, _), (10, _)] ⟨e1, e6, e7, e8, e9, e10, trivial⟩
   have e22 : get a6 22 = (.bool ((leT ((nth xs ((k : Int))).1) s) && (leT s ((nth xs ((k : Int))).2)))) := f6.v 9 rfl
   replace r0 := f6.ib 0 rfl
   clear f6
   show Code.wp _ _ _ a6 w6
   refine wp_cond_split (t := (leT ((nth xs ((k : Int))).1) s) && (leT s ((nth xs ((k : Int))).2))) e22 (fun hc2 => ?_) (fun hc2 => ?_)
   · have hd2 := hc2; try simp only [Bool.and_eq_true] at hd2
     refine wp_seq ?_
     refine region_St (bf := [0]) (sp := [det _ 4 _]) [ib r0] mixed st6 (by kernel_rfl) ⟨r0, trivial⟩
      ⟨Ob.d fun c => r_assign rfl rfl, trivial⟩ ?_
     intro a7 w7 τ7 st7 f7
     obtain ⟨e1, e6, e7, e8, e9, e10, e22, -⟩ := f7.ks [(1, _), (6, _), (7, _), (8, _), (9, _), (10, _), (22, _)] ⟨e1, e6, e7, e8, e9, e10, e22, trivial⟩
     have e4 : get a7 4 = (.bool (true)) := f7.v 0 rfl
     replace r0 := f7.ib 0 rfl
     clear f7
     show Code.wp _ _ _ a7 w7
     refine wp_ret ?_
     repeat (first | with_reducible refine then_ret ?_ | with_reducible refine block_ret ?_)
     refine ret1 (fn := Try.f31) rfl st7.defers e4 ?_
     exact ⟨congrArg _ (congrArg _ (by exact (inR_yes (k := k) (by omega) (by assumption)).symm)), st7.ext0⟩
   have hd2 := hc2; try simp only [Bool.and_eq_false_iff] at hd2
   refine wp_skip ?_
   show _
   show Code.wp _ _ _ a6 w6
   refine region_St (bf := [0, 1]) (sp := [det _ 23 _, det _ 9 _]) [ib r0] mixed st6 (by kernel_rfl) ⟨r0, trivial⟩
    ⟨Ob.d fun c => r_add rfl (c.p e9) rfl (by omega),
    Ob.d fun c => r_move rfl (c.n 0 rfl), trivial⟩ ?_
   intro a8 w8 τ8 st8 f8
   obtain ⟨e1, e6, e7, e8, e10, e22, -⟩ := f8.ks [(1, _), (6, _), (7, _), (8, _), (10, _), (22, _)] ⟨e1, e6, e7, e8, e10, e22, trivial⟩
   have e9 : get a8 9 = (.int .i64 ((k : Int) + 1)) := f8.v 1 rfl
   replace r0 := f8.ib 0 rfl
   clear f8
   refine ⟨⟨k + 1, τ8, ?_, ?_, st8, (e9.trans (int_eq (by omega))), e1, e7, e8⟩, ?_⟩
   · omega
   · exact upto_succ (f := fun i => (leT (nth xs i).1 s && leT s (nth xs i).2)) q1 (by assumption)
   · simp only [m9, e9, intOf]; omega
 try simp only [decide_eq_false_iff_not, Int.not_lt] at hc1
 refine wp_exit ?_
 repeat (with_reducible refine then_exit ?_)
 refine exit_here ?_
 show Code.wp _ _ _ a4 w4
 refine wp_seq ?_
 refine region_St (bf := [0]) (sp := [det _ 4 _]) [] mixed st4 (by kernel_rfl) trivial
  ⟨Ob.d fun c => r_assign rfl rfl, trivial⟩ ?_
 intro a9 w9 τ9 st9 f9
 have e4 : get a9 4 = (.bool (false)) := f9.v 0 rfl
 clear f9
 show Code.wp _ _ _ a9 w9
 refine wp_ret ?_
 repeat (first | with_reducible refine then_ret ?_ | with_reducible refine block_ret ?_)
 refine ret1 (fn := Try.f31) rfl st9.defers e4 ?_
 exact ⟨congrArg _ (congrArg _ (by exact (inR_no (k := k) (by omega) q1).symm)), st9.ext0⟩

set_option maxRecDepth 100000 in
theorem refIn_c (v : Value) (xs : List (ByteArray × ByteArray)) (s : ByteArray) (w : World) (hS : SlT RowE w v xs) : Calls Try.prog 34 #[v, (.string (s))] w (fun e w' => e = .returned (.bool (inR xs s)) ∧ Ext none' w w') := by
 refine enter (n := 28) Try.func34 rfl rfl (Nat.le_of_ble_eq_true rfl) ?_
 intro a0 τ0 ha st0
 have e0 : get a0 0 = v := ha 0 _ rfl
 have e1 : get a0 1 = (.string (s)) := ha 1 _ rfl
 clear ha
 have hle := hS.le
 refine wp_seq ?_
 refine region_St (bf := [0]) (sp := [det _ 4 _]) [] mixed st0 (by kernel_rfl) trivial
  ⟨Ob.d fun c => r_assign rfl rfl, trivial⟩ ?_
 intro a1 w1 τ1 st1 f1
 obtain ⟨e0, e1, -⟩ := f1.ks [(0, _), (1, _)] ⟨e0, e1, trivial⟩
 have e4 : get a1 4 = (.bool (false)) := f1.v 0 rfl
 clear f1
 show Code.wp _ _ _ a1 w1
 refine wp_seq ?_
 refine wp_seq ?_
 refine region_St (bf := [0]) (sp := [det _ 5 _]) [] mixed st1 (by kernel_rfl) trivial
  ⟨Ob.d fun c => r_assign rfl rfl, trivial⟩ ?_
 intro a2 w2 τ2 st2 f2
 obtain ⟨e0, e1, e4, -⟩ := f2.ks [(0, _), (1, _), (4, _)] ⟨e0, e1, e4, trivial⟩
 have e5 : get a2 5 = (.int .i64 (0)) := f2.v 0 rfl
 clear f2
 show Code.wp _ _ _ a2 w2
 refine wp_block ?_
 refine wp_loop (fun a_ w_ => ∃ (k : Nat) (τ : Nat → Foot), (k ≤ xs.length) ∧
      (∀ i < k, (leT (nth xs ((i : Nat) : Int)).1 s && leT s (nth xs ((i : Nat) : Int)).2) = false) ∧
      St (Nw w) w 28 a_ w_ τ ∧
      get a_ 5 = (.int .i64 ((k : Int))) ∧
      get a_ 0 = v ∧
      get a_ 1 = (.string (s))) (fun a_ _ => xs.length - (intOf (get a_ 5)).toNat) ?_ ?_
 · refine ⟨0, τ2, ?_, ?_, st2, (e5.trans (int_eq (by omega))), e0, e1⟩
   · omega
   · intro i hi; omega
 intro a3 w3 hI
 obtain ⟨k, τ3, q0, q1, st3, e5, e0, e1⟩ := hI
 have m5 := e5
 refine wp_seq ?_
 refine wp_seq ?_
 refine region_St (bf := [0, 0, 2, 7]) (sp := [det _ 6 _, det _ 7 _, det _ 8 _, det _ 9 _]) [] mixed st3 (by kernel_rfl) trivial
  ⟨Ob.d fun c => r_move rfl (c.p e5),
  Ob.d fun c => r_move rfl (c.p e0),
  Ob.d fun c => r_len rfl Try.underlying22 (c.n 1 rfl) hS.sl,
  Ob.d fun c => r_lss rfl (c.n 0 rfl) (c.n 2 rfl), trivial⟩ ?_
 intro a4 w4 τ4 st4 f4
 obtain ⟨e0, e1, e5, -⟩ := f4.ks [(0, _), (1, _), (5, _)] ⟨e0, e1, e5, trivial⟩
 have e9 : get a4 9 = (.bool (decide ((k : Int) < (xs.length : Int)))) := f4.v 3 rfl
 clear f4
 show Code.wp _ _ _ a4 w4
 refine wp_cond_split (t := decide ((k : Int) < (xs.length : Int))) e9 (fun hc1 => ?_) (fun hc1 => ?_)
 · try simp only [decide_eq_true_eq] at hc1
   refine wp_skip ?_
   show Code.wp _ _ _ a4 w4
   refine wp_seq ?_
   refine wp_block ?_
   refine wp_seq ?_
   refine region_St (bf := [0, 0, 3, 7, 15, 0, 63, 127, 255, 255, 255, 1791, 3839, 7935, 16383, 32767]) (sp := [det _ 12 _, det _ 13 _, det _ 14 _, det _ 15 _, det _ 16 _, det _ 17 _, det _ 18 _, det _ 19 _, gdet _ 20 _ _, gdet _ 21 _ _, gdet _ 22 _ _, gdet _ 23 _ _, gdet _ 24 _ _, gdet _ 25 _ _, gdet _ 26 _ _, det _ 27 _]) [] mixed st4 (by kernel_rfl) trivial
    ⟨Ob.d fun c => r_move rfl (c.p e0),
    Ob.d fun c => r_move rfl (c.p e5),
    Ob.d fun c => r_indexAddr rfl Try.underlying22 Try.sizeOf36 (c.n 0 rfl) hS.sl (c.n 1 rfl) (by omega) (by omega),
    Ob.d fun c => r_fieldAddr rfl Try.underlying36 rfl rfl Try.sizeOf9 (c.n 2 rfl),
    Ob.d fun c => r_load1 rfl Try.isAgg9 (c.n 3 rfl) (((hS.at (st4.ext.trans c.J.ext))).elem (j := 0) (nth_some (i := (k : Int)) (by omega) (by omega)) rfl),
    Ob.d fun c => r_move rfl (c.p e1),
    Ob.d fun c => r_sleq rfl (c.n 4 rfl) (c.n 5 rfl),
    Ob.d fun c => r_move rfl (c.n 6 rfl),
    Ob.g 7 true rfl fun c hpc => r_move rfl (c.p e1),
    Ob.g 7 true rfl fun c hpc => r_move rfl (c.p e0),
    Ob.g 7 true rfl fun c hpc => r_move rfl (c.p e5),
    Ob.g 7 true rfl fun c hpc => r_indexAddr rfl Try.underlying22 Try.sizeOf36 (c.m 9 rfl hpc) hS.sl (c.m 10 rfl hpc) (by have hq0 := hpc; omega) (by have hq0 := hpc; omega),
    Ob.g 7 true rfl fun c hpc => r_fieldAddr rfl Try.underlying36 rfl rfl Try.sizeOf9 (c.m 11 rfl hpc),
    Ob.g 7 true rfl fun c hpc => r_load1 rfl Try.isAgg9 (c.m 12 rfl hpc) (((hS.at (st4.ext.trans c.J.ext))).elem (j := 1) (nth_some (i := (k : Int)) (by have hq0 := hpc; omega) (by have hq0 := hpc; omega)) rfl),
    Ob.g 7 true rfl fun c hpc => r_sleq rfl (c.m 8 rfl hpc) (c.m 13 rfl hpc),
    Ob.d fun c => r_and rfl (c.n 7 rfl) (fun h => c.m 14 rfl h), trivial⟩ ?_
   intro a5 w5 τ5 st5 f5
   obtain ⟨e0, e1, e5, e9, -⟩ := f5.ks [(0, _), (1, _), (5, _), (9, _)] ⟨e0, e1, e5, e9, trivial⟩
   have e27 : get a5 27 = (.bool ((leT ((nth xs ((k : Int))).1) s) && (leT s ((nth xs ((k : Int))).2)))) := f5.v 15 rfl
   clear f5
   show Code.wp _ _ _ a5 w5
   refine wp_cond_split (t := (leT ((nth xs ((k : Int))).1) s) && (leT s ((nth xs ((k : Int))).2))) e27 (fun hc2 => ?_) (fun hc2 => ?_)
   · have hd2 := hc2; try simp only [Bool.and_eq_true] at hd2
     refine wp_seq ?_
     refine region_St (bf := [0]) (sp := [det _ 4 _]) [] mixed st5 (by kernel_rfl) trivial
      ⟨Ob.d fun c => r_assign rfl rfl, trivial⟩ ?_
     intro a6 w6 τ6 st6 f6
     obtain ⟨e0, e1, e5, e9, e27, -⟩ := f6.ks [(0, _), (1, _), (5, _), (9, _), (27, _)] ⟨e0, e1, e5, e9, e27, trivial⟩
     have e4 : get a6 4 = (.bool (true)) := f6.v 0 rfl
     clear f6
     show Code.wp _ _ _ a6 w6
     refine wp_ret ?_
     repeat (first | with_reducible refine then_ret ?_ | with_reducible refine block_ret ?_)
     refine ret1 (fn := Try.f34) rfl st6.defers e4 ?_
     exact ⟨congrArg _ (congrArg _ (by exact (inR_yes (k := k) (by omega) (by assumption)).symm)), st6.ext0⟩
   have hd2 := hc2; try simp only [Bool.and_eq_false_iff] at hd2
   refine wp_skip ?_
   show _
   show Code.wp _ _ _ a5 w5
   refine region_St (bf := [0, 1, 3]) (sp := [det _ 10 _, det _ 11 _, det _ 5 _]) [] mixed st5 (by kernel_rfl) trivial
    ⟨Ob.d fun c => r_move rfl (c.p e5),
    Ob.d fun c => r_add rfl (c.n 0 rfl) rfl (by omega),
    Ob.d fun c => r_assign rfl (c.n 1 rfl), trivial⟩ ?_
   intro a7 w7 τ7 st7 f7
   obtain ⟨e0, e1, e9, e27, -⟩ := f7.ks [(0, _), (1, _), (9, _), (27, _)] ⟨e0, e1, e9, e27, trivial⟩
   have e5 : get a7 5 = (.int .i64 ((k : Int) + 1)) := f7.v 2 rfl
   clear f7
   refine ⟨⟨k + 1, τ7, ?_, ?_, st7, (e5.trans (int_eq (by omega))), e0, e1⟩, ?_⟩
   · omega
   · exact upto_succ (f := fun i => (leT (nth xs i).1 s && leT s (nth xs i).2)) q1 (by assumption)
   · simp only [m5, e5, intOf]; omega
 try simp only [decide_eq_false_iff_not, Int.not_lt] at hc1
 refine wp_exit ?_
 repeat (with_reducible refine then_exit ?_)
 refine exit_here ?_
 show Code.wp _ _ _ a4 w4
 refine wp_seq ?_
 refine region_St (bf := [0]) (sp := [det _ 4 _]) [] mixed st4 (by kernel_rfl) trivial
  ⟨Ob.d fun c => r_assign rfl rfl, trivial⟩ ?_
 intro a8 w8 τ8 st8 f8
 have e4 : get a8 4 = (.bool (false)) := f8.v 0 rfl
 clear f8
 show Code.wp _ _ _ a8 w8
 refine wp_ret ?_
 repeat (first | with_reducible refine then_ret ?_ | with_reducible refine block_ret ?_)
 refine ret1 (fn := Try.f34) rfl st8.defers e4 ?_
 exact ⟨congrArg _ (congrArg _ (by exact (inR_no (k := k) (by omega) q1).symm)), st8.ext0⟩

set_option maxRecDepth 100000 in
theorem has_c (v : Value) (xs : List (ByteArray × ByteArray)) (n f : Bool) (s : ByteArray) (w : World) (hS : SlT RowE w v xs) (hs : s.size ≤ 1000000000) : Calls Try.prog 16 #[v, (.bool (n)), (.bool (f)), (.string (s))] w (fun e w' => e = .returned (.bool (hasF xs n f s)) ∧ Ext none' w w') := by
 refine enter (n := 30) Try.func16 rfl rfl (Nat.le_of_ble_eq_true rfl) ?_
 intro a0 τ0 ha st0
 have e0 : get a0 0 = v := ha 0 _ rfl
 have e1 : get a0 1 = (.bool (n)) := ha 1 _ rfl
 have e2 : get a0 2 = (.bool (f)) := ha 2 _ rfl
 have e3 : get a0 3 = (.string (s)) := ha 3 _ rfl
 clear ha
 have hle := hS.le
 refine wp_seq ?_
 refine region_St (bf := [0]) (sp := [det _ 8 _]) [] mixed st0 (by kernel_rfl) trivial
  ⟨Ob.d fun c => r_assign rfl rfl, trivial⟩ ?_
 intro a1 w1 τ1 st1 f1
 obtain ⟨e0, e1, e2, e3, -⟩ := f1.ks [(0, _), (1, _), (2, _), (3, _)] ⟨e0, e1, e2, e3, trivial⟩
 have e8 : get a1 8 = (.bool (false)) := f1.v 0 rfl
 clear f1
 show Code.wp _ _ _ a1 w1
 refine wp_seq ?_
 refine region_St (bf := [0, 0, 3, 7]) (sp := [det _ 10 _, det _ 11 _, det _ 12 _, det _ 9 _]) [] mixed st1 (by kernel_rfl) trivial
  ⟨Ob.d fun c => r_move rfl (c.p e0),
  Ob.d fun c => r_move rfl (c.p e3),
  Ob.c fun c => ⟨_, _, (e_call2 rfl rfl Try.call31 (c.n 0 rfl) (c.n 1 rfl)), in_c v xs s _ (hS.at (st1.ext.trans c.J.ext))⟩,
  Ob.d fun c => r_assign rfl (c.n 2 rfl), trivial⟩ ?_
 intro a2 w2 τ2 st2 f2
 obtain ⟨e0, e1, e2, e3, e8, -⟩ := f2.ks [(0, _), (1, _), (2, _), (3, _), (8, _)] ⟨e0, e1, e2, e3, e8, trivial⟩
 have e9 : get a2 9 = (.bool (inR xs s)) := f2.v 3 rfl
 clear f2
 show Code.wp _ _ _ a2 w2
 refine wp_seq ?_
 refine wp_seq ?_
 refine region_St (bf := [0]) (sp := [det _ 13 _]) [] mixed st2 (by kernel_rfl) trivial
  ⟨Ob.d fun c => r_move rfl (c.p e2), trivial⟩ ?_
 intro a3 w3 τ3 st3 f3
 obtain ⟨e0, e1, e3, e8, e9, -⟩ := f3.ks [(0, _), (1, _), (3, _), (8, _), (9, _)] ⟨e0, e1, e3, e8, e9, trivial⟩
 have e13 : get a3 13 = (.bool (f)) := f3.v 0 rfl
 clear f3
 show Code.wp _ _ _ a3 w3
 refine wp_cond_split (t := f) e13 (fun hc1 => ?_) (fun hc1 => ?_)
 · skip
   refine region_St (bf := [0, 1, 3, 3, 11, 31, 63, 127, 255, 255, 767, 2047, 4095, 8191]) (sp := [det _ 14 _, det _ 15 _, gdet _ 16 _ _, gdet _ 17 _ _, gdet _ 18 _ _, gdet _ 19 _ _, det _ 20 _, det _ 21 _, gdet _ 22 _ _, gdet _ 23 _ _, gdet _ 24 _ _, gdet _ 25 _ _, det _ 26 _, det _ 9 _]) [] mixed st3 (by kernel_rfl) trivial
    ⟨Ob.d fun c => r_move rfl (c.p e9),
    Ob.d fun c => r_move rfl (c.n 0 rfl),
    Ob.g 1 false rfl fun c hpc => r_move rfl (c.p e0),
    Ob.g 1 false rfl fun c hpc => r_move rfl (c.p e3),
    Ob.gc 1 false rfl fun c hpc => ⟨_, _, (e_call1 rfl rfl Try.call32 (c.m 3 rfl hpc)), fold_c s _ (by have hq0 := hpc; omega)⟩,
    Ob.gc 1 false rfl fun c hpc => ⟨_, _, (e_call2 rfl rfl Try.call31 (c.m 2 rfl hpc) (c.m 4 rfl hpc)), in_c v xs (foldT s) _ (hS.at (st3.ext.trans c.J.ext))⟩,
    Ob.d fun c => r_or rfl (c.n 1 rfl) (fun h => c.m 5 rfl h),
    Ob.d fun c => r_move rfl (c.n 6 rfl),
    Ob.g 7 false rfl fun c hpc => r_move rfl (c.p e0),
    Ob.g 7 false rfl fun c hpc => r_move rfl (c.p e3),
    Ob.gc 7 false rfl fun c hpc => ⟨_, _, (e_call1 rfl rfl Try.call33 (c.m 9 rfl hpc)), upper_c s _ (by have hq0 := hpc; (try simp only [Bool.or_eq_false_iff] at hq0); omega)⟩,
    Ob.gc 7 false rfl fun c hpc => ⟨_, _, (e_call2 rfl rfl Try.call31 (c.m 8 rfl hpc) (c.m 10 rfl hpc)), in_c v xs (upT s) _ (hS.at (st3.ext.trans c.J.ext))⟩,
    Ob.d fun c => r_or rfl (c.n 7 rfl) (fun h => c.m 11 rfl h),
    Ob.d fun c => r_assign rfl (c.n 12 rfl), trivial⟩ ?_
   intro a4 w4 τ4 st4 f4
   obtain ⟨e1, e8, -⟩ := f4.ks [(1, _), (8, _)] ⟨e1, e8, trivial⟩
   have e9 : get a4 9 = (.bool (((inR xs s) || (inR xs (foldT s))) || (inR xs (upT s)))) := f4.v 13 rfl
   clear f4
   show Code.wp _ _ _ a4 w4
   refine wp_seq ?_
   refine region_St (bf := [0, 0, 3, 7]) (sp := [det _ 27 _, det _ 28 _, det _ 29 _, det _ 8 _]) [] mixed st4 (by kernel_rfl) trivial
    ⟨Ob.d fun c => r_move rfl (c.p e9),
    Ob.d fun c => r_move rfl (c.p e1),
    Ob.d fun c => r_bneq rfl Try.underlying4 (c.n 0 rfl) (c.n 1 rfl),
    Ob.d fun c => r_assign rfl (c.n 2 rfl), trivial⟩ ?_
   intro a5 w5 τ5 st5 f5
   have e8 : get a5 8 = (.bool (!((((inR xs s) || (inR xs (foldT s))) || (inR xs (upT s))) == n))) := f5.v 3 rfl
   clear f5
   show Code.wp _ _ _ a5 w5
   refine wp_ret ?_
   repeat (first | with_reducible refine then_ret ?_ | with_reducible refine block_ret ?_)
   refine ret1 (fn := Try.f16) rfl st5.defers e8 ?_
   exact ⟨congrArg _ (congrArg _ (by first | exact (hasF_t (by assumption)).symm | exact (hasF_f (by assumption)).symm)), st5.ext0⟩
 skip
 refine wp_skip ?_
 show Code.wp _ _ _ a3 w3
 refine wp_seq ?_
 refine region_St (bf := [0, 0, 3, 7]) (sp := [det _ 27 _, det _ 28 _, det _ 29 _, det _ 8 _]) [] mixed st3 (by kernel_rfl) trivial
  ⟨Ob.d fun c => r_move rfl (c.p e9),
  Ob.d fun c => r_move rfl (c.p e1),
  Ob.d fun c => r_bneq rfl Try.underlying4 (c.n 0 rfl) (c.n 1 rfl),
  Ob.d fun c => r_assign rfl (c.n 2 rfl), trivial⟩ ?_
 intro a6 w6 τ6 st6 f6
 have e8 : get a6 8 = (.bool (!((inR xs s) == n))) := f6.v 3 rfl
 clear f6
 show Code.wp _ _ _ a6 w6
 refine wp_ret ?_
 repeat (first | with_reducible refine then_ret ?_ | with_reducible refine block_ret ?_)
 refine ret1 (fn := Try.f16) rfl st6.defers e8 ?_
 exact ⟨congrArg _ (congrArg _ (by first | exact (hasF_t (by assumption)).symm | exact (hasF_f (by assumption)).symm)), st6.ext0⟩

set_option maxRecDepth 100000 in
theorem refHas_c (v : Value) (xs : List (ByteArray × ByteArray)) (n f : Bool) (s : ByteArray) (w : World) (hS : SlT RowE w v xs) (hs : s.size ≤ 1000000000) : Calls Try.prog 17 #[v, (.bool (n)), (.bool (f)), (.string (s))] w (fun e w' => e = .returned (.bool (hasF xs n f s)) ∧ Ext none' w w') := by
 refine enter (n := 29) Try.func17 rfl rfl (Nat.le_of_ble_eq_true rfl) ?_
 intro a0 τ0 ha st0
 have e0 : get a0 0 = v := ha 0 _ rfl
 have e1 : get a0 1 = (.bool (n)) := ha 1 _ rfl
 have e2 : get a0 2 = (.bool (f)) := ha 2 _ rfl
 have e3 : get a0 3 = (.string (s)) := ha 3 _ rfl
 clear ha
 have hle := hS.le
 refine wp_seq ?_
 refine region_St (bf := [0]) (sp := [det _ 8 _]) [] mixed st0 (by kernel_rfl) trivial
  ⟨Ob.d fun c => r_assign rfl rfl, trivial⟩ ?_
 intro a1 w1 τ1 st1 f1
 obtain ⟨e0, e1, e2, e3, -⟩ := f1.ks [(0, _), (1, _), (2, _), (3, _)] ⟨e0, e1, e2, e3, trivial⟩
 have e8 : get a1 8 = (.bool (false)) := f1.v 0 rfl
 clear f1
 show Code.wp _ _ _ a1 w1
 refine wp_seq ?_
 refine region_St (bf := [0, 0, 3, 7]) (sp := [det _ 10 _, det _ 11 _, det _ 12 _, det _ 9 _]) [] mixed st1 (by kernel_rfl) trivial
  ⟨Ob.d fun c => r_move rfl (c.p e0),
  Ob.d fun c => r_move rfl (c.p e3),
  Ob.c fun c => ⟨_, _, (e_call2 rfl rfl Try.call34 (c.n 0 rfl) (c.n 1 rfl)), refIn_c v xs s _ (hS.at (st1.ext.trans c.J.ext))⟩,
  Ob.d fun c => r_assign rfl (c.n 2 rfl), trivial⟩ ?_
 intro a2 w2 τ2 st2 f2
 obtain ⟨e0, e1, e2, e3, e8, -⟩ := f2.ks [(0, _), (1, _), (2, _), (3, _), (8, _)] ⟨e0, e1, e2, e3, e8, trivial⟩
 have e9 : get a2 9 = (.bool (inR xs s)) := f2.v 3 rfl
 clear f2
 show Code.wp _ _ _ a2 w2
 refine wp_seq ?_
 refine wp_seq ?_
 refine region_St (bf := [0, 1, 3, 3, 11, 31, 63, 127, 127, 383, 1023, 2047, 4095]) (sp := [det _ 13 _, det _ 14 _, gdet _ 15 _ _, gdet _ 16 _ _, gdet _ 17 _ _, gdet _ 18 _ _, gdet _ 19 _ _, gdet _ 20 _ _, gdet _ 21 _ _, gdet _ 22 _ _, gdet _ 23 _ _, gdet _ 24 _ _, det _ 25 _]) [] mixed st2 (by kernel_rfl) trivial
  ⟨Ob.d fun c => r_move rfl (c.p e2),
  Ob.d fun c => r_move rfl (c.n 0 rfl),
  Ob.g 1 true rfl fun c hpc => r_move rfl (c.p e0),
  Ob.g 1 true rfl fun c hpc => r_move rfl (c.p e3),
  Ob.gc 1 true rfl fun c hpc => ⟨_, _, (e_call1 rfl rfl Try.call21 (c.m 3 rfl hpc)), refFold_c s _ (by have hq0 := hpc; omega)⟩,
  Ob.gc 1 true rfl fun c hpc => ⟨_, _, (e_call2 rfl rfl Try.call34 (c.m 2 rfl hpc) (c.m 4 rfl hpc)), refIn_c v xs (foldT s) _ (hS.at (st2.ext.trans c.J.ext))⟩,
  Ob.g 1 true rfl fun c hpc => r_move rfl (c.m 5 rfl hpc),
  Ob.gg 6 false rfl fun c hpc => r_move rfl (c.p e0),
  Ob.gg 6 false rfl fun c hpc => r_move rfl (c.p e3),
  Ob.ggc 6 false rfl fun c hpc => ⟨_, _, (e_call1 rfl rfl Try.call22 (c.m 8 rfl hpc)), refUpper_c s _ (by have hq0 := hpc.2; have hq1 := hpc.1; omega)⟩,
  Ob.ggc 6 false rfl fun c hpc => ⟨_, _, (e_call2 rfl rfl Try.call34 (c.m 7 rfl hpc) (c.m 9 rfl hpc)), refIn_c v xs (upT s) _ (hS.at (st2.ext.trans c.J.ext))⟩,
  Ob.g 1 true rfl fun c hpc => r_or rfl (c.m 6 rfl hpc) (fun h => c.m 10 rfl (And.intro hpc h)),
  Ob.d fun c => r_and rfl (c.n 1 rfl) (fun h => c.m 11 rfl h), trivial⟩ ?_
 intro a3 w3 τ3 st3 f3
 obtain ⟨e1, e8, e9, -⟩ := f3.ks [(1, _), (8, _), (9, _)] ⟨e1, e8, e9, trivial⟩
 have e25 : get a3 25 = (.bool (f && ((inR xs (foldT s)) || (inR xs (upT s))))) := f3.v 12 rfl
 clear f3
 show Code.wp _ _ _ a3 w3
 refine wp_cond_split (t := f && ((inR xs (foldT s)) || (inR xs (upT s)))) e25 (fun hc1 => ?_) (fun hc1 => ?_)
 · have hd1 := hc1; try simp only [Bool.and_eq_true, Bool.or_eq_true] at hd1
   refine region_St (bf := [0]) (sp := [det _ 9 _]) [] mixed st3 (by kernel_rfl) trivial
    ⟨Ob.d fun c => r_assign rfl rfl, trivial⟩ ?_
   intro a4 w4 τ4 st4 f4
   obtain ⟨e1, e8, -⟩ := f4.ks [(1, _), (8, _)] ⟨e1, e8, trivial⟩
   have e9 : get a4 9 = (.bool (true)) := f4.v 0 rfl
   clear f4
   show Code.wp _ _ _ a4 w4
   refine wp_seq ?_
   refine region_St (bf := [0, 0, 3, 7]) (sp := [det _ 26 _, det _ 27 _, det _ 28 _, det _ 8 _]) [] mixed st4 (by kernel_rfl) trivial
    ⟨Ob.d fun c => r_move rfl (c.p e9),
    Ob.d fun c => r_move rfl (c.p e1),
    Ob.d fun c => r_bneq rfl Try.underlying4 (c.n 0 rfl) (c.n 1 rfl),
    Ob.d fun c => r_assign rfl (c.n 2 rfl), trivial⟩ ?_
   intro a5 w5 τ5 st5 f5
   have e8 : get a5 8 = (.bool (!(true == n))) := f5.v 3 rfl
   clear f5
   show Code.wp _ _ _ a5 w5
   refine wp_ret ?_
   repeat (first | with_reducible refine then_ret ?_ | with_reducible refine block_ret ?_)
   refine ret1 (fn := Try.f17) rfl st5.defers e8 ?_
   exact ⟨congrArg _ (congrArg _ (by first | exact (hasQ_t (by assumption)).symm | exact (hasQ_f (by assumption)).symm)), st5.ext0⟩
 have hd1 := hc1; try simp only [Bool.and_eq_false_iff, Bool.or_eq_false_iff] at hd1
 refine wp_skip ?_
 show Code.wp _ _ _ a3 w3
 refine wp_seq ?_
 refine region_St (bf := [0, 0, 3, 7]) (sp := [det _ 26 _, det _ 27 _, det _ 28 _, det _ 8 _]) [] mixed st3 (by kernel_rfl) trivial
  ⟨Ob.d fun c => r_move rfl (c.p e9),
  Ob.d fun c => r_move rfl (c.p e1),
  Ob.d fun c => r_bneq rfl Try.underlying4 (c.n 0 rfl) (c.n 1 rfl),
  Ob.d fun c => r_assign rfl (c.n 2 rfl), trivial⟩ ?_
 intro a6 w6 τ6 st6 f6
 have e8 : get a6 8 = (.bool (!((inR xs s) == n))) := f6.v 3 rfl
 clear f6
 show Code.wp _ _ _ a6 w6
 refine wp_ret ?_
 repeat (first | with_reducible refine then_ret ?_ | with_reducible refine block_ret ?_)
 refine ret1 (fn := Try.f17) rfl st6.defers e8 ?_
 exact ⟨congrArg _ (congrArg _ (by first | exact (hasQ_t (by assumption)).symm | exact (hasQ_f (by assumption)).symm)), st6.ext0⟩

set_option maxRecDepth 100000 in
theorem named_c (n : Int) (w : World) : Calls Try.prog 18 #[.int .u8 n] w (fun e w' => ∃ v', e = .returned (.tuple #[v', .bool (namedB n)]) ∧ Ext none' w w' ∧ NewT RowE 36 w w' v' (namedF n)) := by
 refine enter (n := 23) Try.func18 rfl rfl (Nat.le_of_ble_eq_true rfl) ?_
 intro a0 τ0 ha st0
 have e0 : get a0 0 = (.int .u8 (n)) := ha 0 _ rfl
 clear ha
 refine wp_seq ?_
 refine region_St (bf := [0, 1]) (sp := [det _ 2 _, det _ 3 _]) [] mixed st0 (by kernel_rfl) trivial
  ⟨Ob.d fun c => r_assign rfl rfl,
  Ob.d fun c => r_assign rfl rfl, trivial⟩ ?_
 intro a1 w1 τ1 st1 f1
 obtain ⟨e0, -⟩ := f1.ks [(0, _)] ⟨e0, trivial⟩
 have e2 : get a1 2 = (.slice none 0 0) := f1.v 0 rfl
 have e3 : get a1 3 = (.bool (false)) := f1.v 1 rfl
 clear f1
 show Code.wp _ _ _ a1 w1
 refine wp_seq ?_
 refine region_St (bf := [0, 0, 3]) (sp := [det _ 5 _, box _ _ 0 4 [(.string ((⟨#[]⟩ : ByteArray))), (.string ((⟨#[]⟩ : ByteArray)))], box _ _ 0 4 [(.string ((⟨#[48]⟩ : ByteArray))), (.string ((⟨#[57]⟩ : ByteArray)))]]) [] mixed st1 (by kernel_rfl) trivial
  ⟨Ob.d fun c => r_build (cells := #[(.string ((⟨#[48]⟩ : ByteArray))), (.string ((⟨#[57]⟩ : ByteArray)))]) rfl Try.underlying36 Try.zeroValue36 (pl := #[(0, 1), (1, 1)]) (fun w_ => by simp [Try.sizeOf9]) (fill2 rfl rfl rfl),
  Ob.alloc rfl rfl rfl rfl Try.zeroValue36 rfl,
  Ob.storeBox (off := 0) (v := (.agg #[(.string ((⟨#[48]⟩ : ByteArray))), (.string ((⟨#[57]⟩ : ByteArray)))])) rfl rfl rfl rfl Try.sizeOf36 (Nat.le_of_ble_eq_true rfl) (by simp [Value.cells, Value.oneCell']) rfl (fun _ _ _ _ c => ⟨c.rb 1 rfl, (c.rb 1 rfl).ptr, (c.n 0 rfl)⟩), trivial⟩ ?_
 intro a2 w2 τ2 st2 f2
 obtain ⟨b2x4, e4⟩ : ∃ b, get a2 4 = b := ⟨_, rfl⟩
 obtain ⟨e0, e2, e3, -⟩ := f2.ks [(0, _), (2, _), (3, _)] ⟨e0, e2, e3, trivial⟩
 have r0 : boxR 36 [(.string ((⟨#[48]⟩ : ByteArray))), (.string ((⟨#[57]⟩ : ByteArray)))] (τ2 0) b2x4 w2 := f2.rb 2 e4 rfl
 clear f2
 show Code.wp _ _ _ a2 w2
 refine wp_seq ?_
 refine wp_seq ?_
 refine region_St (bf := [0]) (sp := [det _ 6 _]) [ib r0] mixed st2 (by kernel_rfl) ⟨r0, trivial⟩
  ⟨Ob.d fun c => r_move rfl (c.p e0), trivial⟩ ?_
 intro a3 w3 τ3 st3 f3
 obtain ⟨e2, e3, e4, -⟩ := f3.ks [(2, _), (3, _), (4, _)] ⟨e2, e3, e4, trivial⟩
 have e6 : get a3 6 = (.int .u8 (n)) := f3.v 0 rfl
 replace r0 := f3.ib 0 rfl
 clear f3
 show Code.wp _ _ _ a3 w3
 refine wp_block ?_
 refine wp_seq ?_
 refine region_St (bf := [0, 1]) (sp := [det _ 8 _, det _ 7 _]) [ib r0] mixed st3 (by kernel_rfl) ⟨r0, trivial⟩
  ⟨Ob.d fun c => r_eql rfl (c.p e6) rfl,
  Ob.d fun c => r_assign rfl (c.n 0 rfl), trivial⟩ ?_
 intro a4 w4 τ4 st4 f4
 obtain ⟨e2, e3, e4, e6, -⟩ := f4.ks [(2, _), (3, _), (4, _), (6, _)] ⟨e2, e3, e4, e6, trivial⟩
 have e7 : get a4 7 = (.bool (decide (n = 100))) := f4.v 1 rfl
 replace r0 := f4.ib 0 rfl
 clear f4
 show Code.wp _ _ _ a4 w4
 refine wp_cond_split (t := decide (n = 100)) e7 (fun hc1 => ?_) (fun hc1 => ?_)
 · try simp only [decide_eq_true_eq] at hc1
   refine wp_seq ?_
   refine region_St (bf := [0, 1, 3, 7]) (sp := [det _ 9 _, own RowE 36 _ 1 10 ([((⟨#[48]⟩ : ByteArray), (⟨#[57]⟩ : ByteArray))]), own _ _ _ 1 2 _, det _ 3 _]) [ib r0] mixed st4 (by kernel_rfl) ⟨r0, trivial⟩
    ⟨Ob.d fun c => r_loadN (vs := [(.string ((⟨#[48]⟩ : ByteArray))), (.string ((⟨#[57]⟩ : ByteArray)))]) rfl Try.isAgg36 Try.sizeOf36 ((c.p e4).trans r0.ptr) rfl (fun _ _ hj => (c.ib 0 rfl).cell hj),
    Ob.buildSlice (cells := #[(.string ((⟨#[48]⟩ : ByteArray))), (.string ((⟨#[57]⟩ : ByteArray)))]) rfl rfl rfl rfl Try.underlying22 Try.sizeOf36 Try.zeroValue36 rfl (by decide) (by decide) (fun _ _ _ _ c => fill1 (c.n 0 rfl) (by kernel_rfl)) rfl,
    Ob.moveT (t0 := 10) rfl rfl rfl rfl rfl (.inr rfl) (fun _ _ _ _ c => ⟨c.ro 1 rfl, rfl⟩),
    Ob.d fun c => r_assign rfl rfl, trivial⟩ ?_
   intro a5 w5 τ5 st5 f5
   obtain ⟨b5x2, e2⟩ : ∃ b, get a5 2 = b := ⟨_, rfl⟩
   obtain ⟨e4, e6, -⟩ := f5.ks [(4, _), (6, _)] ⟨e4, e6, trivial⟩
   have e3 : get a5 3 = (.bool (true)) := f5.v 3 rfl
   replace r0 := f5.ib 0 rfl
   have r1 : ownR RowE 36 ([((⟨#[48]⟩ : ByteArray), (⟨#[57]⟩ : ByteArray))]) (τ5 1) b5x2 w5 := f5.ro 2 e2 rfl
   clear f5
   show Code.wp _ _ _ a5 w5
   refine wp_ret ?_
   repeat (first | with_reducible refine then_ret ?_ | with_reducible refine block_ret ?_)
   refine ret2 (fn := Try.f18) rfl st5.defers e2 e3 ?_
   obtain ⟨k1, k2⟩ := (by first | exact named_100 (by assumption) | exact named_119 (by assumption) | exact named_115 (by assumption) : namedF n = [((⟨#[48]⟩ : ByteArray), (⟨#[57]⟩ : ByteArray))] ∧ namedB n = true)
   rw [k1, k2]
   exact ⟨_, rfl, st5.ext0, r1.1, fun g_ h_ => (st5.bnd _ g_ (r1.2 g_ h_)).1⟩
 try simp only [decide_eq_false_iff_not] at hc1
 refine wp_seq ?_
 refine region_St (bf := [0, 1]) (sp := [det _ 12 _, det _ 11 _]) [ib r0] mixed st4 (by kernel_rfl) ⟨r0, trivial⟩
  ⟨Ob.d fun c => r_eql rfl (c.p e6) rfl,
  Ob.d fun c => r_assign rfl (c.n 0 rfl), trivial⟩ ?_
 intro a6 w6 τ6 st6 f6
 obtain ⟨e2, e3, e4, e6, -⟩ := f6.ks [(2, _), (3, _), (4, _), (6, _)] ⟨e2, e3, e4, e6, trivial⟩
 have e11 : get a6 11 = (.bool (decide (n = 119))) := f6.v 1 rfl
 replace r0 := f6.ib 0 rfl
 clear f6
 show Code.wp _ _ _ a6 w6
 refine wp_cond_split (t := decide (n = 119)) e11 (fun hc2 => ?_) (fun hc2 => ?_)
 · try simp only [decide_eq_true_eq] at hc2
   refine wp_seq ?_
   refine region_St (bf := [0, 0, 0, 0, 15, 31, 63]) (sp := [det _ 13 _, det _ 14 _, det _ 15 _, det _ 16 _, own RowE 36 _ 1 17 ([((⟨#[48]⟩ : ByteArray), (⟨#[57]⟩ : ByteArray)), ((⟨#[65]⟩ : ByteArray), (⟨#[90]⟩ : ByteArray)), ((⟨#[95]⟩ : ByteArray), (⟨#[95]⟩ : ByteArray)), ((⟨#[97]⟩ : ByteArray), (⟨#[122]⟩ : ByteArray))]), own _ _ _ 1 2 _, det _ 3 _]) [ib r0] mixed st6 (by kernel_rfl) ⟨r0, trivial⟩
    ⟨Ob.d fun c => r_loadN (vs := [(.string ((⟨#[48]⟩ : ByteArray))), (.string ((⟨#[57]⟩ : ByteArray)))]) rfl Try.isAgg36 Try.sizeOf36 ((c.p e4).trans r0.ptr) rfl (fun _ _ hj => (c.ib 0 rfl).cell hj),
    Ob.d fun c => r_build (cells := #[(.string ((⟨#[65]⟩ : ByteArray))), (.string ((⟨#[90]⟩ : ByteArray)))]) rfl Try.underlying36 Try.zeroValue36 (pl := #[(0, 1), (1, 1)]) (fun w_ => by simp [Try.sizeOf9]) (fill2 rfl rfl rfl),
    Ob.d fun c => r_build (cells := #[(.string ((⟨#[95]⟩ : ByteArray))), (.string ((⟨#[95]⟩ : ByteArray)))]) rfl Try.underlying36 Try.zeroValue36 (pl := #[(0, 1), (1, 1)]) (fun w_ => by simp [Try.sizeOf9]) (fill2 rfl rfl rfl),
    Ob.d fun c => r_build (cells := #[(.string ((⟨#[97]⟩ : ByteArray))), (.string ((⟨#[122]⟩ : ByteArray)))]) rfl Try.underlying36 Try.zeroValue36 (pl := #[(0, 1), (1, 1)]) (fun w_ => by simp [Try.sizeOf9]) (fill2 rfl rfl rfl),
    Ob.buildSlice (cells := #[(.string ((⟨#[48]⟩ : ByteArray))), (.string ((⟨#[57]⟩ : ByteArray))), (.string ((⟨#[65]⟩ : ByteArray))), (.string ((⟨#[90]⟩ : ByteArray))), (.string ((⟨#[95]⟩ : ByteArray))), (.string ((⟨#[95]⟩ : ByteArray))), (.string ((⟨#[97]⟩ : ByteArray))), (.string ((⟨#[122]⟩ : ByteArray)))]) rfl rfl rfl rfl Try.underlying22 Try.sizeOf36 Try.zeroValue36 rfl (by decide) (by decide) (fun _ _ _ _ c => fill4 (c.n 0 rfl) (c.n 1 rfl) (c.n 2 rfl) (c.n 3 rfl) (by kernel_rfl)) rfl,
    Ob.moveT (t0 := 17) rfl rfl rfl rfl rfl (.inr rfl) (fun _ _ _ _ c => ⟨c.ro 4 rfl, rfl⟩),
    Ob.d fun c => r_assign rfl rfl, trivial⟩ ?_
   intro a7 w7 τ7 st7 f7
   obtain ⟨b7x2, e2⟩ : ∃ b, get a7 2 = b := ⟨_, rfl⟩
   obtain ⟨e6, -⟩ := f7.ks [(6, _)] ⟨e6, trivial⟩
   have e3 : get a7 3 = (.bool (true)) := f7.v 6 rfl
   have r1 : ownR RowE 36 ([((⟨#[48]⟩ : ByteArray), (⟨#[57]⟩ : ByteArray)), ((⟨#[65]⟩ : ByteArray), (⟨#[90]⟩ : ByteArray)), ((⟨#[95]⟩ : ByteArray), (⟨#[95]⟩ : ByteArray)), ((⟨#[97]⟩ : ByteArray), (⟨#[122]⟩ : ByteArray))]) (τ7 1) b7x2 w7 := f7.ro 5 e2 rfl
   clear f7
   show Code.wp _ _ _ a7 w7
   refine wp_ret ?_
   repeat (first | with_reducible refine then_ret ?_ | with_reducible refine block_ret ?_)
   refine ret2 (fn := Try.f18) rfl st7.defers e2 e3 ?_
   obtain ⟨k1, k2⟩ := (by first | exact named_100 (by assumption) | exact named_119 (by assumption) | exact named_115 (by assumption) : namedF n = [((⟨#[48]⟩ : ByteArray), (⟨#[57]⟩ : ByteArray)), ((⟨#[65]⟩ : ByteArray), (⟨#[90]⟩ : ByteArray)), ((⟨#[95]⟩ : ByteArray), (⟨#[95]⟩ : ByteArray)), ((⟨#[97]⟩ : ByteArray), (⟨#[122]⟩ : ByteArray))] ∧ namedB n = true)
   rw [k1, k2]
   exact ⟨_, rfl, st7.ext0, r1.1, fun g_ h_ => (st7.bnd _ g_ (r1.2 g_ h_)).1⟩
 try simp only [decide_eq_false_iff_not] at hc2
 refine wp_seq ?_
 refine region_St (bf := [0, 1]) (sp := [det _ 19 _, det _ 18 _]) [ib r0] mixed st6 (by kernel_rfl) ⟨r0, trivial⟩
  ⟨Ob.d fun c => r_eql rfl (c.p e6) rfl,
  Ob.d fun c => r_assign rfl (c.n 0 rfl), trivial⟩ ?_
 intro a8 w8 τ8 st8 f8
 obtain ⟨e2, e3, -⟩ := f8.ks [(2, _), (3, _)] ⟨e2, e3, trivial⟩
 have e18 : get a8 18 = (.bool (decide (n = 115))) := f8.v 1 rfl
 clear f8
 show Code.wp _ _ _ a8 w8
 refine wp_cond_split (t := decide (n = 115)) e18 (fun hc3 => ?_) (fun hc3 => ?_)
 · try simp only [decide_eq_true_eq] at hc3
   refine wp_seq ?_
   refine region_St (bf := [0, 0, 3, 7, 15]) (sp := [det _ 20 _, det _ 21 _, own RowE 36 _ 0 22 ([((⟨#[9]⟩ : ByteArray), (⟨#[13]⟩ : ByteArray)), ((⟨#[32]⟩ : ByteArray), (⟨#[32]⟩ : ByteArray))]), own _ _ _ 0 2 _, det _ 3 _]) [] mixed st8 (by kernel_rfl) trivial
    ⟨Ob.d fun c => r_build (cells := #[(.string ((⟨#[9]⟩ : ByteArray))), (.string ((⟨#[13]⟩ : ByteArray)))]) rfl Try.underlying36 Try.zeroValue36 (pl := #[(0, 1), (1, 1)]) (fun w_ => by simp [Try.sizeOf9]) (fill2 rfl rfl rfl),
    Ob.d fun c => r_build (cells := #[(.string ((⟨#[32]⟩ : ByteArray))), (.string ((⟨#[32]⟩ : ByteArray)))]) rfl Try.underlying36 Try.zeroValue36 (pl := #[(0, 1), (1, 1)]) (fun w_ => by simp [Try.sizeOf9]) (fill2 rfl rfl rfl),
    Ob.buildSlice (cells := #[(.string ((⟨#[9]⟩ : ByteArray))), (.string ((⟨#[13]⟩ : ByteArray))), (.string ((⟨#[32]⟩ : ByteArray))), (.string ((⟨#[32]⟩ : ByteArray)))]) rfl rfl rfl rfl Try.underlying22 Try.sizeOf36 Try.zeroValue36 rfl (by decide) (by decide) (fun _ _ _ _ c => fill2 (c.n 0 rfl) (c.n 1 rfl) (by kernel_rfl)) rfl,
    Ob.moveT (t0 := 22) rfl rfl rfl rfl rfl (.inr rfl) (fun _ _ _ _ c => ⟨c.ro 2 rfl, rfl⟩),
    Ob.d fun c => r_assign rfl rfl, trivial⟩ ?_
   intro a9 w9 τ9 st9 f9
   obtain ⟨b9x2, e2⟩ : ∃ b, get a9 2 = b := ⟨_, rfl⟩
   have e3 : get a9 3 = (.bool (true)) := f9.v 4 rfl
   have r0 : ownR RowE 36 ([((⟨#[9]⟩ : ByteArray), (⟨#[13]⟩ : ByteArray)), ((⟨#[32]⟩ : ByteArray), (⟨#[32]⟩ : ByteArray))]) (τ9 0) b9x2 w9 := f9.ro 3 e2 rfl
   clear f9
   show Code.wp _ _ _ a9 w9
   refine wp_ret ?_
   repeat (first | with_reducible refine then_ret ?_ | with_reducible refine block_ret ?_)
   refine ret2 (fn := Try.f18) rfl st9.defers e2 e3 ?_
   obtain ⟨k1, k2⟩ := (by first | exact named_100 (by assumption) | exact named_119 (by assumption) | exact named_115 (by assumption) : namedF n = [((⟨#[9]⟩ : ByteArray), (⟨#[13]⟩ : ByteArray)), ((⟨#[32]⟩ : ByteArray), (⟨#[32]⟩ : ByteArray))] ∧ namedB n = true)
   rw [k1, k2]
   exact ⟨_, rfl, st9.ext0, r0.1, fun g_ h_ => (st9.bnd _ g_ (r0.2 g_ h_)).1⟩
 try simp only [decide_eq_false_iff_not] at hc3
 refine wp_skip ?_
 show _
 show Code.wp _ _ _ a8 w8
 refine wp_seq ?_
 refine region_St (bf := [0, 1]) (sp := [det _ 2 _, det _ 3 _]) [] mixed st8 (by kernel_rfl) trivial
  ⟨Ob.d fun c => r_assign rfl rfl,
  Ob.d fun c => r_assign rfl rfl, trivial⟩ ?_
 intro a10 w10 τ10 st10 f10
 have e2 : get a10 2 = (.slice none 0 0) := f10.v 0 rfl
 have e3 : get a10 3 = (.bool (false)) := f10.v 1 rfl
 clear f10
 show Code.wp _ _ _ a10 w10
 refine wp_ret ?_
 repeat (first | with_reducible refine then_ret ?_ | with_reducible refine block_ret ?_)
 refine ret2 (fn := Try.f18) rfl st10.defers e2 e3 ?_
 obtain ⟨k1, k2⟩ := named_no (n := n) (by assumption) (by assumption) (by assumption)
 rw [k1, k2]
 exact ⟨_, rfl, st10.ext0, OwnT.nil _ _ _, fun g_ h_ => by simp [Value.ownBlock] at h_⟩

set_option maxRecDepth 100000 in
theorem refNamed_c (n : Int) (w : World) : Calls Try.prog 19 #[.int .u8 n] w (fun e w' => ∃ v', e = .returned (.tuple #[v', .bool (namedB n)]) ∧ Ext none' w w' ∧ NewT RowE 36 w w' v' (namedF n)) := by
 refine enter (n := 21) Try.func19 rfl rfl (Nat.le_of_ble_eq_true rfl) ?_
 intro a0 τ0 ha st0
 have e0 : get a0 0 = (.int .u8 (n)) := ha 0 _ rfl
 clear ha
 refine wp_seq ?_
 refine region_St (bf := [0, 1]) (sp := [det _ 2 _, det _ 3 _]) [] mixed st0 (by kernel_rfl) trivial
  ⟨Ob.d fun c => r_assign rfl rfl,
  Ob.d fun c => r_assign rfl rfl, trivial⟩ ?_
 intro a1 w1 τ1 st1 f1
 obtain ⟨e0, -⟩ := f1.ks [(0, _)] ⟨e0, trivial⟩
 have e2 : get a1 2 = (.slice none 0 0) := f1.v 0 rfl
 have e3 : get a1 3 = (.bool (false)) := f1.v 1 rfl
 clear f1
 show Code.wp _ _ _ a1 w1
 refine wp_seq ?_
 refine wp_seq ?_
 refine region_St (bf := [0]) (sp := [det _ 4 _]) [] mixed st1 (by kernel_rfl) trivial
  ⟨Ob.d fun c => r_move rfl (c.p e0), trivial⟩ ?_
 intro a2 w2 τ2 st2 f2
 obtain ⟨e2, e3, -⟩ := f2.ks [(2, _), (3, _)] ⟨e2, e3, trivial⟩
 have e4 : get a2 4 = (.int .u8 (n)) := f2.v 0 rfl
 clear f2
 show Code.wp _ _ _ a2 w2
 refine wp_block ?_
 refine wp_seq ?_
 refine region_St (bf := [0, 1]) (sp := [det _ 6 _, det _ 5 _]) [] mixed st2 (by kernel_rfl) trivial
  ⟨Ob.d fun c => r_eql rfl (c.p e4) rfl,
  Ob.d fun c => r_assign rfl (c.n 0 rfl), trivial⟩ ?_
 intro a3 w3 τ3 st3 f3
 obtain ⟨e2, e3, e4, -⟩ := f3.ks [(2, _), (3, _), (4, _)] ⟨e2, e3, e4, trivial⟩
 have e5 : get a3 5 = (.bool (decide (n = 100))) := f3.v 1 rfl
 clear f3
 show Code.wp _ _ _ a3 w3
 refine wp_cond_split (t := decide (n = 100)) e5 (fun hc1 => ?_) (fun hc1 => ?_)
 · try simp only [decide_eq_true_eq] at hc1
   refine wp_seq ?_
   refine region_St (bf := [0, 1, 3, 7]) (sp := [det _ 7 _, own RowE 36 _ 0 8 ([((⟨#[48]⟩ : ByteArray), (⟨#[57]⟩ : ByteArray))]), own _ _ _ 0 2 _, det _ 3 _]) [] mixed st3 (by kernel_rfl) trivial
    ⟨Ob.d fun c => r_build (cells := #[(.string ((⟨#[48]⟩ : ByteArray))), (.string ((⟨#[57]⟩ : ByteArray)))]) rfl Try.underlying36 Try.zeroValue36 (pl := #[(0, 1), (1, 1)]) (fun w_ => by simp [Try.sizeOf9]) (fill2 rfl rfl rfl),
    Ob.buildSlice (cells := #[(.string ((⟨#[48]⟩ : ByteArray))), (.string ((⟨#[57]⟩ : ByteArray)))]) rfl rfl rfl rfl Try.underlying22 Try.sizeOf36 Try.zeroValue36 rfl (by decide) (by decide) (fun _ _ _ _ c => fill1 (c.n 0 rfl) (by kernel_rfl)) rfl,
    Ob.moveT (t0 := 8) rfl rfl rfl rfl rfl (.inr rfl) (fun _ _ _ _ c => ⟨c.ro 1 rfl, rfl⟩),
    Ob.d fun c => r_assign rfl rfl, trivial⟩ ?_
   intro a4 w4 τ4 st4 f4
   obtain ⟨b4x2, e2⟩ : ∃ b, get a4 2 = b := ⟨_, rfl⟩
   obtain ⟨e4, -⟩ := f4.ks [(4, _)] ⟨e4, trivial⟩
   have e3 : get a4 3 = (.bool (true)) := f4.v 3 rfl
   have r0 : ownR RowE 36 ([((⟨#[48]⟩ : ByteArray), (⟨#[57]⟩ : ByteArray))]) (τ4 0) b4x2 w4 := f4.ro 2 e2 rfl
   clear f4
   show Code.wp _ _ _ a4 w4
   refine wp_ret ?_
   repeat (first | with_reducible refine then_ret ?_ | with_reducible refine block_ret ?_)
   refine ret2 (fn := Try.f19) rfl st4.defers e2 e3 ?_
   obtain ⟨k1, k2⟩ := (by first | exact named_100 (by assumption) | exact named_119 (by assumption) | exact named_115 (by assumption) : namedF n = [((⟨#[48]⟩ : ByteArray), (⟨#[57]⟩ : ByteArray))] ∧ namedB n = true)
   rw [k1, k2]
   exact ⟨_, rfl, st4.ext0, r0.1, fun g_ h_ => (st4.bnd _ g_ (r0.2 g_ h_)).1⟩
 try simp only [decide_eq_false_iff_not] at hc1
 refine wp_seq ?_
 refine region_St (bf := [0, 1]) (sp := [det _ 10 _, det _ 9 _]) [] mixed st3 (by kernel_rfl) trivial
  ⟨Ob.d fun c => r_eql rfl (c.p e4) rfl,
  Ob.d fun c => r_assign rfl (c.n 0 rfl), trivial⟩ ?_
 intro a5 w5 τ5 st5 f5
 obtain ⟨e2, e3, e4, -⟩ := f5.ks [(2, _), (3, _), (4, _)] ⟨e2, e3, e4, trivial⟩
 have e9 : get a5 9 = (.bool (decide (n = 119))) := f5.v 1 rfl
 clear f5
 show Code.wp _ _ _ a5 w5
 refine wp_cond_split (t := decide (n = 119)) e9 (fun hc2 => ?_) (fun hc2 => ?_)
 · try simp only [decide_eq_true_eq] at hc2
   refine wp_seq ?_
   refine region_St (bf := [0, 0, 0, 0, 15, 31, 63]) (sp := [det _ 11 _, det _ 12 _, det _ 13 _, det _ 14 _, own RowE 36 _ 0 15 ([((⟨#[48]⟩ : ByteArray), (⟨#[57]⟩ : ByteArray)), ((⟨#[65]⟩ : ByteArray), (⟨#[90]⟩ : ByteArray)), ((⟨#[95]⟩ : ByteArray), (⟨#[95]⟩ : ByteArray)), ((⟨#[97]⟩ : ByteArray), (⟨#[122]⟩ : ByteArray))]), own _ _ _ 0 2 _, det _ 3 _]) [] mixed st5 (by kernel_rfl) trivial
    ⟨Ob.d fun c => r_build (cells := #[(.string ((⟨#[48]⟩ : ByteArray))), (.string ((⟨#[57]⟩ : ByteArray)))]) rfl Try.underlying36 Try.zeroValue36 (pl := #[(0, 1), (1, 1)]) (fun w_ => by simp [Try.sizeOf9]) (fill2 rfl rfl rfl),
    Ob.d fun c => r_build (cells := #[(.string ((⟨#[65]⟩ : ByteArray))), (.string ((⟨#[90]⟩ : ByteArray)))]) rfl Try.underlying36 Try.zeroValue36 (pl := #[(0, 1), (1, 1)]) (fun w_ => by simp [Try.sizeOf9]) (fill2 rfl rfl rfl),
    Ob.d fun c => r_build (cells := #[(.string ((⟨#[95]⟩ : ByteArray))), (.string ((⟨#[95]⟩ : ByteArray)))]) rfl Try.underlying36 Try.zeroValue36 (pl := #[(0, 1), (1, 1)]) (fun w_ => by simp [Try.sizeOf9]) (fill2 rfl rfl rfl),
    Ob.d fun c => r_build (cells := #[(.string ((⟨#[97]⟩ : ByteArray))), (.string ((⟨#[122]⟩ : ByteArray)))]) rfl Try.underlying36 Try.zeroValue36 (pl := #[(0, 1), (1, 1)]) (fun w_ => by simp [Try.sizeOf9]) (fill2 rfl rfl rfl),
    Ob.buildSlice (cells := #[(.string ((⟨#[48]⟩ : ByteArray))), (.string ((⟨#[57]⟩ : ByteArray))), (.string ((⟨#[65]⟩ : ByteArray))), (.string ((⟨#[90]⟩ : ByteArray))), (.string ((⟨#[95]⟩ : ByteArray))), (.string ((⟨#[95]⟩ : ByteArray))), (.string ((⟨#[97]⟩ : ByteArray))), (.string ((⟨#[122]⟩ : ByteArray)))]) rfl rfl rfl rfl Try.underlying22 Try.sizeOf36 Try.zeroValue36 rfl (by decide) (by decide) (fun _ _ _ _ c => fill4 (c.n 0 rfl) (c.n 1 rfl) (c.n 2 rfl) (c.n 3 rfl) (by kernel_rfl)) rfl,
    Ob.moveT (t0 := 15) rfl rfl rfl rfl rfl (.inr rfl) (fun _ _ _ _ c => ⟨c.ro 4 rfl, rfl⟩),
    Ob.d fun c => r_assign rfl rfl, trivial⟩ ?_
   intro a6 w6 τ6 st6 f6
   obtain ⟨b6x2, e2⟩ : ∃ b, get a6 2 = b := ⟨_, rfl⟩
   obtain ⟨e4, -⟩ := f6.ks [(4, _)] ⟨e4, trivial⟩
   have e3 : get a6 3 = (.bool (true)) := f6.v 6 rfl
   have r0 : ownR RowE 36 ([((⟨#[48]⟩ : ByteArray), (⟨#[57]⟩ : ByteArray)), ((⟨#[65]⟩ : ByteArray), (⟨#[90]⟩ : ByteArray)), ((⟨#[95]⟩ : ByteArray), (⟨#[95]⟩ : ByteArray)), ((⟨#[97]⟩ : ByteArray), (⟨#[122]⟩ : ByteArray))]) (τ6 0) b6x2 w6 := f6.ro 5 e2 rfl
   clear f6
   show Code.wp _ _ _ a6 w6
   refine wp_ret ?_
   repeat (first | with_reducible refine then_ret ?_ | with_reducible refine block_ret ?_)
   refine ret2 (fn := Try.f19) rfl st6.defers e2 e3 ?_
   obtain ⟨k1, k2⟩ := (by first | exact named_100 (by assumption) | exact named_119 (by assumption) | exact named_115 (by assumption) : namedF n = [((⟨#[48]⟩ : ByteArray), (⟨#[57]⟩ : ByteArray)), ((⟨#[65]⟩ : ByteArray), (⟨#[90]⟩ : ByteArray)), ((⟨#[95]⟩ : ByteArray), (⟨#[95]⟩ : ByteArray)), ((⟨#[97]⟩ : ByteArray), (⟨#[122]⟩ : ByteArray))] ∧ namedB n = true)
   rw [k1, k2]
   exact ⟨_, rfl, st6.ext0, r0.1, fun g_ h_ => (st6.bnd _ g_ (r0.2 g_ h_)).1⟩
 try simp only [decide_eq_false_iff_not] at hc2
 refine wp_seq ?_
 refine region_St (bf := [0, 1]) (sp := [det _ 17 _, det _ 16 _]) [] mixed st5 (by kernel_rfl) trivial
  ⟨Ob.d fun c => r_eql rfl (c.p e4) rfl,
  Ob.d fun c => r_assign rfl (c.n 0 rfl), trivial⟩ ?_
 intro a7 w7 τ7 st7 f7
 obtain ⟨e2, e3, -⟩ := f7.ks [(2, _), (3, _)] ⟨e2, e3, trivial⟩
 have e16 : get a7 16 = (.bool (decide (n = 115))) := f7.v 1 rfl
 clear f7
 show Code.wp _ _ _ a7 w7
 refine wp_cond_split (t := decide (n = 115)) e16 (fun hc3 => ?_) (fun hc3 => ?_)
 · try simp only [decide_eq_true_eq] at hc3
   refine wp_seq ?_
   refine region_St (bf := [0, 0, 3, 7, 15]) (sp := [det _ 18 _, det _ 19 _, own RowE 36 _ 0 20 ([((⟨#[9]⟩ : ByteArray), (⟨#[13]⟩ : ByteArray)), ((⟨#[32]⟩ : ByteArray), (⟨#[32]⟩ : ByteArray))]), own _ _ _ 0 2 _, det _ 3 _]) [] mixed st7 (by kernel_rfl) trivial
    ⟨Ob.d fun c => r_build (cells := #[(.string ((⟨#[9]⟩ : ByteArray))), (.string ((⟨#[13]⟩ : ByteArray)))]) rfl Try.underlying36 Try.zeroValue36 (pl := #[(0, 1), (1, 1)]) (fun w_ => by simp [Try.sizeOf9]) (fill2 rfl rfl rfl),
    Ob.d fun c => r_build (cells := #[(.string ((⟨#[32]⟩ : ByteArray))), (.string ((⟨#[32]⟩ : ByteArray)))]) rfl Try.underlying36 Try.zeroValue36 (pl := #[(0, 1), (1, 1)]) (fun w_ => by simp [Try.sizeOf9]) (fill2 rfl rfl rfl),
    Ob.buildSlice (cells := #[(.string ((⟨#[9]⟩ : ByteArray))), (.string ((⟨#[13]⟩ : ByteArray))), (.string ((⟨#[32]⟩ : ByteArray))), (.string ((⟨#[32]⟩ : ByteArray)))]) rfl rfl rfl rfl Try.underlying22 Try.sizeOf36 Try.zeroValue36 rfl (by decide) (by decide) (fun _ _ _ _ c => fill2 (c.n 0 rfl) (c.n 1 rfl) (by kernel_rfl)) rfl,
    Ob.moveT (t0 := 20) rfl rfl rfl rfl rfl (.inr rfl) (fun _ _ _ _ c => ⟨c.ro 2 rfl, rfl⟩),
    Ob.d fun c => r_assign rfl rfl, trivial⟩ ?_
   intro a8 w8 τ8 st8 f8
   obtain ⟨b8x2, e2⟩ : ∃ b, get a8 2 = b := ⟨_, rfl⟩
   have e3 : get a8 3 = (.bool (true)) := f8.v 4 rfl
   have r0 : ownR RowE 36 ([((⟨#[9]⟩ : ByteArray), (⟨#[13]⟩ : ByteArray)), ((⟨#[32]⟩ : ByteArray), (⟨#[32]⟩ : ByteArray))]) (τ8 0) b8x2 w8 := f8.ro 3 e2 rfl
   clear f8
   show Code.wp _ _ _ a8 w8
   refine wp_ret ?_
   repeat (first | with_reducible refine then_ret ?_ | with_reducible refine block_ret ?_)
   refine ret2 (fn := Try.f19) rfl st8.defers e2 e3 ?_
   obtain ⟨k1, k2⟩ := (by first | exact named_100 (by assumption) | exact named_119 (by assumption) | exact named_115 (by assumption) : namedF n = [((⟨#[9]⟩ : ByteArray), (⟨#[13]⟩ : ByteArray)), ((⟨#[32]⟩ : ByteArray), (⟨#[32]⟩ : ByteArray))] ∧ namedB n = true)
   rw [k1, k2]
   exact ⟨_, rfl, st8.ext0, r0.1, fun g_ h_ => (st8.bnd _ g_ (r0.2 g_ h_)).1⟩
 try simp only [decide_eq_false_iff_not] at hc3
 refine wp_skip ?_
 show _
 show Code.wp _ _ _ a7 w7
 refine wp_seq ?_
 refine region_St (bf := [0, 1]) (sp := [det _ 2 _, det _ 3 _]) [] mixed st7 (by kernel_rfl) trivial
  ⟨Ob.d fun c => r_assign rfl rfl,
  Ob.d fun c => r_assign rfl rfl, trivial⟩ ?_
 intro a9 w9 τ9 st9 f9
 have e2 : get a9 2 = (.slice none 0 0) := f9.v 0 rfl
 have e3 : get a9 3 = (.bool (false)) := f9.v 1 rfl
 clear f9
 show Code.wp _ _ _ a9 w9
 refine wp_ret ?_
 repeat (first | with_reducible refine then_ret ?_ | with_reducible refine block_ret ?_)
 refine ret2 (fn := Try.f19) rfl st9.defers e2 e3 ?_
 obtain ⟨k1, k2⟩ := named_no (n := n) (by assumption) (by assumption) (by assumption)
 rw [k1, k2]
 exact ⟨_, rfl, st9.ext0, OwnT.nil _ _ _, fun g_ h_ => by simp [Value.ownBlock] at h_⟩
end B
end Go.Proofs.Ythaeepiichphjaa
