/-
  Walks, printed by a program (gen.py): TrC.
-/
import Derived.Test.YtocmchlhbniloaaTrB
import Derived.Test.YtocmchlhbniloaaRowW
set_option linter.unusedSimpArgs false
set_option linter.unusedVariables false
namespace Go.Proofs.Ytocmchlhbniloaa
namespace B
open Go.RowKit
open Srt
def rwB (p q : Rw) : Bool := decide (p = q)
def rwV (p : Rw) : Value := .agg #[.string p.1, .string p.2]
theorem rwB_eq (p q : Rw) : rwB p q = (eqT p.1 q.1 && eqT p.2 q.2) := by
  rw [Bool.eq_iff_iff]; simp [rwB, Prod.ext_iff, eqT_iff]
theorem rw_run (p q : Rw) (w : World) : (Op.equal 43 (rwV p) (rwV q)).run Try.prog w = .ok (rwB p q) w := by
  rw [rwB_eq]
  have h := run_equalIn_struct (P := Try.prog) w 9999 43 #[.string p.1, .string p.2] #[.string q.1, .string q.2] rfl Try.stoodInHeld43
  simp only [Op.equal, Op.maxDepth, rwV, h]
  simp [Program.fieldsOf, Op.eqFields, part, go_sem, eqT]
  by_cases h3 : p.1.toList = q.1.toList <;> by_cases h4 : p.2.toList = q.2.toList <;> simp [h3, h4]
theorem rw_eq {a : Act} {o : Oper} {w : World} {x y : Operand} {t' : TypeId} {p q : Rw} (ho : o.op = .binOp .eql 43 x y t') (hx : a.eval x = rwV p) (hy : a.eval y = rwV q) : Runs Try.prog a o w (.bool (rwB p q)) := by
  have h := rw_run p q w
  simp only [rwV] at h hx hy
  simp [Runs, execOp, ho, hx, hy, eqGuard, binOp, h]
theorem rw_ne {a : Act} {o : Oper} {w : World} {x y : Operand} {t' : TypeId} {p q : Rw} (ho : o.op = .binOp .neq 43 x y t') (hx : a.eval x = rwV p) (hy : a.eval y = rwV q) : Runs Try.prog a o w (.bool (!rwB p q)) := by
  have h := rw_run p q w
  simp only [rwV] at h hx hy
  simp [Runs, execOp, ho, hx, hy, eqGuard, binOp, h]
set_option maxRecDepth 100000 in
theorem eqRows_c (v u : Value) (xs ys : List (ByteArray × ByteArray)) (w : World) (hS : SlT RowE w v xs) (hU : SlT RowE w u ys) : Calls Try.prog 29 #[v, u] w (fun e w' => e = .returned (.bool (decide (xs = ys))) ∧ Ext none' w w') := by
 refine enter (n := 26) Try.func29 rfl rfl (Nat.le_of_ble_eq_true rfl) ?_
 intro a0 τ0 ha st0
 have e0 : get a0 0 = v := ha 0 _ rfl
 have e1 : get a0 1 = u := ha 1 _ rfl
 clear ha
 have hle := hS.le
 have hle2 := hU.le
 refine wp_seq ?_
 refine region_St (bf := [0]) (sp := [det _ 4 _]) [] mixed st0 (by kernel_rfl) trivial
  ⟨Ob.d fun c => r_assign rfl rfl, trivial⟩ ?_
 intro a1 w1 τ1 st1 f1
 obtain ⟨e0, e1, -⟩ := f1.ks [(0, _), (1, _)] ⟨e0, e1, trivial⟩
 have e4 : get a1 4 = (.bool (false)) := f1.v 0 rfl
 clear f1
 show Code.wp _ _ _ a1 w1
 refine wp_seq ?_
 refine wp_seq ?_
 refine region_St (bf := [0, 1, 0, 4, 15]) (sp := [det _ 6 _, det _ 7 _, det _ 8 _, det _ 9 _, det _ 10 _]) [] mixed st1 (by kernel_rfl) trivial
  ⟨Ob.d fun c => r_move rfl (c.p e0),
  Ob.d fun c => r_len rfl Try.underlying22 (c.n 0 rfl) hS.sl,
  Ob.d fun c => r_move rfl (c.p e1),
  Ob.d fun c => r_len rfl Try.underlying22 (c.n 2 rfl) hU.sl,
  Ob.d fun c => r_neq rfl (c.n 1 rfl) (c.n 3 rfl), trivial⟩ ?_
 intro a2 w2 τ2 st2 f2
 obtain ⟨e0, e1, e4, -⟩ := f2.ks [(0, _), (1, _), (4, _)] ⟨e0, e1, e4, trivial⟩
 have e10 : get a2 10 = (.bool (!decide ((xs.length : Int) = (ys.length : Int)))) := f2.v 4 rfl
 clear f2
 show Code.wp _ _ _ a2 w2
 refine wp_cond_split (t := !decide ((xs.length : Int) = (ys.length : Int))) e10 (fun hc1 => ?_) (fun hc1 => ?_)
 · try simp only [Bool.not_eq_true', Bool.not_eq_false', decide_eq_true_eq, decide_eq_false_iff_not] at hc1
   refine wp_seq ?_
   refine region_St (bf := [0]) (sp := [det _ 4 _]) [] mixed st2 (by kernel_rfl) trivial
    ⟨Ob.d fun c => r_assign rfl rfl, trivial⟩ ?_
   intro a3 w3 τ3 st3 f3
   obtain ⟨e0, e1, -⟩ := f3.ks [(0, _), (1, _)] ⟨e0, e1, trivial⟩
   have e4 : get a3 4 = (.bool (false)) := f3.v 0 rfl
   clear f3
   show Code.wp _ _ _ a3 w3
   refine wp_ret ?_
   repeat (first | with_reducible refine then_ret ?_ | with_reducible refine block_ret ?_)
   refine ret1 (fn := Try.f29) rfl st3.defers e4 ?_
   exact ⟨congrArg _ (congrArg _ (by first | (symm; exact decide_eq_false (fun h => by subst h; omega)) | (symm; exact decide_eq_false (differ (by assumption))) | (symm; exact decide_eq_true (all_same q1 q0 q2 (by assumption))))), st3.ext0⟩
 try simp only [Bool.not_eq_true', Bool.not_eq_false', decide_eq_true_eq, decide_eq_false_iff_not] at hc1
 refine wp_skip ?_
 show Code.wp _ _ _ a2 w2
 refine wp_seq ?_
 refine wp_seq ?_
 refine region_St (bf := [0, 1, 0]) (sp := [det _ 11 _, det _ 12 _, det _ 13 _]) [] mixed st2 (by kernel_rfl) trivial
  ⟨Ob.d fun c => r_move rfl (c.p e0),
  Ob.d fun c => r_len rfl Try.underlying22 (c.n 0 rfl) hS.sl,
  Ob.d fun c => r_move rfl rfl, trivial⟩ ?_
 intro a4 w4 τ4 st4 f4
 obtain ⟨e0, e1, e4, -⟩ := f4.ks [(0, _), (1, _), (4, _)] ⟨e0, e1, e4, trivial⟩
 have e12 : get a4 12 = (.int .i64 ((xs.length : Int))) := f4.v 1 rfl
 have e13 : get a4 13 = (.int .i64 (0)) := f4.v 2 rfl
 clear f4
 show Code.wp _ _ _ a4 w4
 refine wp_block ?_
 refine wp_loop (fun a_ w_ => ∃ (k : Nat) (τ : Nat → Foot), (k ≤ xs.length) ∧
      (xs.length = ys.length) ∧
      (xs.take k = ys.take k) ∧
      St (Nw w) w 26 a_ w_ τ ∧
      get a_ 13 = (.int .i64 ((k : Int))) ∧
      get a_ 0 = v ∧
      get a_ 1 = u ∧
      get a_ 12 = (.int .i64 ((xs.length : Int)))) (fun a_ _ => xs.length - (intOf (get a_ 13)).toNat) ?_ ?_
 · refine ⟨0, τ4, ?_, ?_, ?_, st4, (e13.trans (int_eq (by omega))), e0, e1, e12⟩
   · omega
   · omega
   · simp
 intro a5 w5 hI
 obtain ⟨k, τ5, q0, q1, q2, st5, e13, e0, e1, e12⟩ := hI
 have m13 := e13
 refine wp_seq ?_
 refine region_St (bf := [0]) (sp := [det _ 14 _]) [] mixed st5 (by kernel_rfl) trivial
  ⟨Ob.d fun c => r_lss rfl (c.p e13) (c.p e12), trivial⟩ ?_
 intro a6 w6 τ6 st6 f6
 obtain ⟨e0, e1, e12, e13, -⟩ := f6.ks [(0, _), (1, _), (12, _), (13, _)] ⟨e0, e1, e12, e13, trivial⟩
 have e14 : get a6 14 = (.bool (decide ((k : Int) < (xs.length : Int)))) := f6.v 0 rfl
 clear f6
 show Code.wp _ _ _ a6 w6
 refine wp_seq ?_
 refine wp_cond_split (t := decide ((k : Int) < (xs.length : Int))) e14 (fun hc2 => ?_) (fun hc2 => ?_)
 · try simp only [decide_eq_true_eq] at hc2
   refine wp_skip ?_
   show Code.wp _ _ _ a6 w6
   refine wp_seq ?_
   refine wp_block ?_
   refine wp_seq ?_
   refine region_St (bf := [0, 1]) (sp := [det _ 15 _, det _ 5 _]) [] mixed st6 (by kernel_rfl) trivial
    ⟨Ob.d fun c => r_move rfl (c.p e13),
    Ob.d fun c => r_assign rfl (c.n 0 rfl), trivial⟩ ?_
   intro a7 w7 τ7 st7 f7
   obtain ⟨e0, e1, e12, e13, e14, -⟩ := f7.ks [(0, _), (1, _), (12, _), (13, _), (14, _)] ⟨e0, e1, e12, e13, e14, trivial⟩
   have e5 : get a7 5 = (.int .i64 ((k : Int))) := f7.v 1 rfl
   clear f7
   show Code.wp _ _ _ a7 w7
   refine wp_seq ?_
   refine region_St (bf := [0, 0, 3, 7, 0, 0, 48, 112, 255]) (sp := [det _ 16 _, det _ 17 _, det _ 18 _, det _ 19 _, det _ 20 _, det _ 21 _, det _ 22 _, det _ 23 _, det _ 24 _]) [] mixed st7 (by kernel_rfl) trivial
    ⟨Ob.d fun c => r_move rfl (c.p e0),
    Ob.d fun c => r_move rfl (c.p e5),
    Ob.d fun c => r_indexAddr rfl Try.underlying22 Try.sizeOf43 (c.n 0 rfl) hS.sl (c.n 1 rfl) (by omega) (by omega),
    Ob.d fun c => r_loadN (vs := [(.string ((nth xs ((k : Int))).1)), (.string ((nth xs ((k : Int))).2))]) rfl Try.isAgg43 Try.sizeOf43 (c.n 2 rfl) rfl (fun _ _ hj => ((hS.at (st7.ext.trans c.J.ext))).elem (nth_some (i := (k : Int)) (by omega) (by omega)) hj),
    Ob.d fun c => r_move rfl (c.p e1),
    Ob.d fun c => r_move rfl (c.p e5),
    Ob.d fun c => r_indexAddr rfl Try.underlying22 Try.sizeOf43 (c.n 4 rfl) hU.sl (c.n 5 rfl) (by omega) (by omega),
    Ob.d fun c => r_loadN (vs := [(.string ((nth ys ((k : Int))).1)), (.string ((nth ys ((k : Int))).2))]) rfl Try.isAgg43 Try.sizeOf43 (c.n 6 rfl) rfl (fun _ _ hj => ((hU.at (st7.ext.trans c.J.ext))).elem (nth_some (i := (k : Int)) (by omega) (by omega)) hj),
    Ob.d fun c => rw_ne rfl (c.n 3 rfl) (c.n 7 rfl), trivial⟩ ?_
   intro a8 w8 τ8 st8 f8
   obtain ⟨e0, e1, e5, e12, e13, e14, -⟩ := f8.ks [(0, _), (1, _), (5, _), (12, _), (13, _), (14, _)] ⟨e0, e1, e5, e12, e13, e14, trivial⟩
   have e24 : get a8 24 = (.bool (!(rwB (nth xs ((k : Int))) (nth ys ((k : Int)))))) := f8.v 8 rfl
   clear f8
   show Code.wp _ _ _ a8 w8
   refine wp_cond_split (t := !(rwB (nth xs ((k : Int))) (nth ys ((k : Int))))) e24 (fun hc3 => ?_) (fun hc3 => ?_)
   · try simp only [Bool.not_eq_true', Bool.not_eq_false', decide_eq_true_eq, decide_eq_false_iff_not, rwB] at hc3
     refine wp_seq ?_
     refine region_St (bf := [0]) (sp := [det _ 4 _]) [] mixed st8 (by kernel_rfl) trivial
      ⟨Ob.d fun c => r_assign rfl rfl, trivial⟩ ?_
     intro a9 w9 τ9 st9 f9
     obtain ⟨e0, e1, e5, e12, e13, e14, e24, -⟩ := f9.ks [(0, _), (1, _), (5, _), (12, _), (13, _), (14, _), (24, _)] ⟨e0, e1, e5, e12, e13, e14, e24, trivial⟩
     have e4 : get a9 4 = (.bool (false)) := f9.v 0 rfl
     clear f9
     show Code.wp _ _ _ a9 w9
     refine wp_ret ?_
     repeat (first | with_reducible refine then_ret ?_ | with_reducible refine block_ret ?_)
     refine ret1 (fn := Try.f29) rfl st9.defers e4 ?_
     exact ⟨congrArg _ (congrArg _ (by first | (symm; exact decide_eq_false (fun h => by subst h; omega)) | (symm; exact decide_eq_false (differ (by assumption))) | (symm; exact decide_eq_true (all_same q1 q0 q2 (by assumption))))), st9.ext0⟩
   try simp only [Bool.not_eq_true', Bool.not_eq_false', decide_eq_true_eq, decide_eq_false_iff_not, rwB] at hc3
   refine wp_skip ?_
   show _
   show Code.wp _ _ _ a8 w8
   refine region_St (bf := [0, 1]) (sp := [det _ 25 _, det _ 13 _]) [] mixed st8 (by kernel_rfl) trivial
    ⟨Ob.d fun c => r_add rfl (c.p e13) rfl (by omega),
    Ob.d fun c => r_move rfl (c.n 0 rfl), trivial⟩ ?_
   intro a10 w10 τ10 st10 f10
   obtain ⟨e0, e1, e5, e12, e14, e24, -⟩ := f10.ks [(0, _), (1, _), (5, _), (12, _), (14, _), (24, _)] ⟨e0, e1, e5, e12, e14, e24, trivial⟩
   have e13 : get a10 13 = (.int .i64 ((k : Int) + 1)) := f10.v 1 rfl
   clear f10
   refine ⟨⟨k + 1, τ10, ?_, ?_, ?_, st10, (e13.trans (int_eq (by omega))), e0, e1, e12⟩, ?_⟩
   · omega
   · omega
   · exact take_same (by omega) (by omega) q2 (by assumption)
   · simp only [m13, e13, intOf]; omega
 try simp only [decide_eq_false_iff_not, Int.not_lt] at hc2
 refine wp_exit ?_
 repeat (with_reducible refine then_exit ?_)
 refine exit_here ?_
 show Code.wp _ _ _ a6 w6
 refine wp_seq ?_
 refine region_St (bf := [0]) (sp := [det _ 4 _]) [] mixed st6 (by kernel_rfl) trivial
  ⟨Ob.d fun c => r_assign rfl rfl, trivial⟩ ?_
 intro a11 w11 τ11 st11 f11
 have e4 : get a11 4 = (.bool (true)) := f11.v 0 rfl
 clear f11
 show Code.wp _ _ _ a11 w11
 refine wp_ret ?_
 repeat (first | with_reducible refine then_ret ?_ | with_reducible refine block_ret ?_)
 refine ret1 (fn := Try.f29) rfl st11.defers e4 ?_
 exact ⟨congrArg _ (congrArg _ (by first | (symm; exact decide_eq_false (fun h => by subst h; omega)) | (symm; exact decide_eq_false (differ (by assumption))) | (symm; exact decide_eq_true (all_same q1 q0 q2 (by assumption))))), st11.ext0⟩

set_option maxRecDepth 100000 in
theorem eqFunc_c (v u : Value) (ts us : List Tr) (ih : ∀ k ∈ ts, ∀ (b : Tr) (w : World), TrS w k → TrS w b → Calls Try.prog 11 #[k.v, b.v] w (fun e w' => e = .returned (.bool (sameF k b)) ∧ Ext none' w w')) (w : World) (hS : TlS w v ts) (hU : TlS w u us) : Calls Try.prog 30 #[v, u, (.func (.func 11) #[] #[])] w (fun e w' => e = .returned (.bool (samesF ts us)) ∧ Ext none' w w') := by
 refine enter (n := 32) Try.func30 rfl rfl (Nat.le_of_ble_eq_true rfl) ?_
 intro a0 τ0 ha st0
 have e0 : get a0 0 = v := ha 0 _ rfl
 have e1 : get a0 1 = u := ha 1 _ rfl
 have e2 : get a0 2 = (.func (.func 11) #[] #[]) := ha 2 _ rfl
 clear ha
 have hle := hS.sl.le
 have hle2 := hU.sl.le
 refine wp_seq ?_
 refine region_St (bf := [0]) (sp := [det _ 6 _]) [] mixed st0 (by kernel_rfl) trivial
  ⟨Ob.d fun c => r_assign rfl rfl, trivial⟩ ?_
 intro a1 w1 τ1 st1 f1
 obtain ⟨e0, e1, e2, -⟩ := f1.ks [(0, _), (1, _), (2, _)] ⟨e0, e1, e2, trivial⟩
 have e6 : get a1 6 = (.bool (false)) := f1.v 0 rfl
 clear f1
 show Code.wp _ _ _ a1 w1
 refine wp_seq ?_
 refine wp_seq ?_
 refine region_St (bf := [0, 1, 0, 4, 15]) (sp := [det _ 10 _, det _ 11 _, det _ 12 _, det _ 13 _, det _ 14 _]) [] mixed st1 (by kernel_rfl) trivial
  ⟨Ob.d fun c => r_move rfl (c.p e0),
  Ob.d fun c => r_len rfl Try.underlying23 (c.n 0 rfl) (hS.at st1.ext).sl.sl,
  Ob.d fun c => r_move rfl (c.p e1),
  Ob.d fun c => r_len rfl Try.underlying23 (c.n 2 rfl) (hU.at st1.ext).sl.sl,
  Ob.d fun c => r_neq rfl (c.n 1 rfl) (c.n 3 rfl), trivial⟩ ?_
 intro a2 w2 τ2 st2 f2
 obtain ⟨e0, e1, e2, e6, -⟩ := f2.ks [(0, _), (1, _), (2, _), (6, _)] ⟨e0, e1, e2, e6, trivial⟩
 have e14 : get a2 14 = (.bool (!decide ((ts.length : Int) = (us.length : Int)))) := f2.v 4 rfl
 clear f2
 show Code.wp _ _ _ a2 w2
 refine wp_cond_split (t := !decide ((ts.length : Int) = (us.length : Int))) e14 (fun hc1 => ?_) (fun hc1 => ?_)
 · try simp only [Bool.not_eq_true', Bool.not_eq_false', decide_eq_true_eq, decide_eq_false_iff_not] at hc1
   refine wp_seq ?_
   refine region_St (bf := [0]) (sp := [det _ 6 _]) [] mixed st2 (by kernel_rfl) trivial
    ⟨Ob.d fun c => r_assign rfl rfl, trivial⟩ ?_
   intro a3 w3 τ3 st3 f3
   obtain ⟨e0, e1, e2, -⟩ := f3.ks [(0, _), (1, _), (2, _)] ⟨e0, e1, e2, trivial⟩
   have e6 : get a3 6 = (.bool (false)) := f3.v 0 rfl
   clear f3
   show Code.wp _ _ _ a3 w3
   refine wp_ret ?_
   repeat (first | with_reducible refine then_ret ?_ | with_reducible refine block_ret ?_)
   refine ret1 (fn := Try.f30) rfl st3.defers e6 ?_
   exact ⟨congrArg _ (congrArg _ (by first | exact (samesF_len (by omega)).symm | exact (samesF_no (k := k) (by omega) (by omega) (by simpa using (by assumption))).symm | exact (samesF_yes q1 (by omega) q2).symm)), st3.ext0⟩
 try simp only [Bool.not_eq_true', Bool.not_eq_false', decide_eq_true_eq, decide_eq_false_iff_not] at hc1
 refine wp_skip ?_
 show Code.wp _ _ _ a2 w2
 refine wp_seq ?_
 refine wp_seq ?_
 refine region_St (bf := [0, 1, 0]) (sp := [det _ 15 _, det _ 16 _, det _ 17 _]) [] mixed st2 (by kernel_rfl) trivial
  ⟨Ob.d fun c => r_move rfl (c.p e0),
  Ob.d fun c => r_len rfl Try.underlying23 (c.n 0 rfl) (hS.at st2.ext).sl.sl,
  Ob.d fun c => r_move rfl rfl, trivial⟩ ?_
 intro a4 w4 τ4 st4 f4
 obtain ⟨e1, e2, e6, -⟩ := f4.ks [(1, _), (2, _), (6, _)] ⟨e1, e2, e6, trivial⟩
 have e15 : get a4 15 = v := f4.v 0 rfl
 have e16 : get a4 16 = (.int .i64 ((ts.length : Int))) := f4.v 1 rfl
 have e17 : get a4 17 = (.int .i64 (0)) := f4.v 2 rfl
 clear f4
 show Code.wp _ _ _ a4 w4
 refine wp_block ?_
 refine wp_loop (fun a_ w_ => ∃ (k : Nat) (τ : Nat → Foot), (k ≤ ts.length) ∧
      (ts.length = us.length) ∧
      (ts.take k).map er = (us.take k).map er ∧
      St (Nw w) w 32 a_ w_ τ ∧
      get a_ 17 = (.int .i64 ((k : Int))) ∧
      get a_ 1 = u ∧
      get a_ 2 = (.func (.func 11) #[] #[]) ∧
      get a_ 15 = v ∧
      get a_ 16 = (.int .i64 ((ts.length : Int)))) (fun a_ _ => ts.length - (intOf (get a_ 17)).toNat) ?_ ?_
 · refine ⟨0, τ4, ?_, ?_, ?_, st4, (e17.trans (int_eq (by omega))), e1, e2, e15, e16⟩
   · omega
   · omega
   · simp
 intro a5 w5 hI
 obtain ⟨k, τ5, q0, q1, q2, st5, e17, e1, e2, e15, e16⟩ := hI
 have m17 := e17
 refine wp_seq ?_
 refine region_St (bf := [0]) (sp := [det _ 18 _]) [] mixed st5 (by kernel_rfl) trivial
  ⟨Ob.d fun c => r_lss rfl (c.p e17) (c.p e16), trivial⟩ ?_
 intro a6 w6 τ6 st6 f6
 obtain ⟨e1, e2, e15, e16, e17, -⟩ := f6.ks [(1, _), (2, _), (15, _), (16, _), (17, _)] ⟨e1, e2, e15, e16, e17, trivial⟩
 have e18 : get a6 18 = (.bool (decide ((k : Int) < (ts.length : Int)))) := f6.v 0 rfl
 clear f6
 show Code.wp _ _ _ a6 w6
 refine wp_seq ?_
 refine wp_cond_split (t := decide ((k : Int) < (ts.length : Int))) e18 (fun hc2 => ?_) (fun hc2 => ?_)
 · try simp only [decide_eq_true_eq] at hc2
   refine wp_skip ?_
   show Code.wp _ _ _ a6 w6
   refine wp_seq ?_
   refine wp_block ?_
   refine wp_seq ?_
   refine region_St (bf := [0, 0, 2, 0, 15, 31]) (sp := [det _ 19 _, det _ 20 _, det _ 21 _, box _ _ 0 8 [(.int .i64 (0)), (.string ((⟨#[]⟩ : ByteArray))), (.bool (false)), (.slice none 0 0), (.int .i64 (0)), (.int .i64 (0)), (.bool (false)), (.slice none 0 0)], det _ 7 _, box _ _ 0 8 [(.int .i64 ((nth ts ((k : Int))).k)), (.string ((nth ts ((k : Int))).ch)), (.bool ((nth ts ((k : Int))).ng)), (nth ts ((k : Int))).rv.v, (.int .i64 ((nth ts ((k : Int))).mn)), (.int .i64 ((nth ts ((k : Int))).mx)), (.bool ((nth ts ((k : Int))).lz)), (nth ts ((k : Int))).kv.v]]) [] mixed st6 (by kernel_rfl) trivial
    ⟨Ob.d fun c => r_move rfl (c.p e17),
    Ob.d fun c => r_indexAddr rfl Try.underlying23 Try.sizeOf25 (c.p e15) (hS.at st6.ext).sl.sl (c.p e17) (by omega) (by omega),
    Ob.d fun c => r_loadN (vs := [(.int .i64 ((nth ts ((k : Int))).k)), (.string ((nth ts ((k : Int))).ch)), (.bool ((nth ts ((k : Int))).ng)), (nth ts ((k : Int))).rv.v, (.int .i64 ((nth ts ((k : Int))).mn)), (.int .i64 ((nth ts ((k : Int))).mx)), (.bool ((nth ts ((k : Int))).lz)), (nth ts ((k : Int))).kv.v]) rfl Try.isAgg25 Try.sizeOf25 (c.n 1 rfl) rfl (fun _ _ hj => ((hS.at (st6.ext.trans c.J.ext)).sl).elem (nth_some (i := (k : Int)) (by omega) (by omega)) hj),
    Ob.alloc rfl rfl rfl rfl Try.zeroValue25 rfl,
    Ob.d fun c => r_assign rfl (c.n 0 rfl),
    Ob.storeBox (off := 0) (v := (.agg #[(.int .i64 ((nth ts ((k : Int))).k)), (.string ((nth ts ((k : Int))).ch)), (.bool ((nth ts ((k : Int))).ng)), (nth ts ((k : Int))).rv.v, (.int .i64 ((nth ts ((k : Int))).mn)), (.int .i64 ((nth ts ((k : Int))).mx)), (.bool ((nth ts ((k : Int))).lz)), (nth ts ((k : Int))).kv.v])) rfl rfl rfl rfl Try.sizeOf25 (Nat.le_of_ble_eq_true rfl) (by simp [Value.cells, Value.oneCell', Sv.v]) rfl (fun _ _ _ _ c => ⟨c.rb 3 rfl, (c.rb 3 rfl).ptr, (c.n 2 rfl)⟩), trivial⟩ ?_
   intro a7 w7 τ7 st7 f7
   obtain ⟨b7x8, e8⟩ : ∃ b, get a7 8 = b := ⟨_, rfl⟩
   obtain ⟨e1, e2, e15, e16, e17, e18, -⟩ := f7.ks [(1, _), (2, _), (15, _), (16, _), (17, _), (18, _)] ⟨e1, e2, e15, e16, e17, e18, trivial⟩
   have e7 : get a7 7 = (.int .i64 ((k : Int))) := f7.v 4 rfl
   have r0 : boxR 25 [(.int .i64 ((nth ts ((k : Int))).k)), (.string ((nth ts ((k : Int))).ch)), (.bool ((nth ts ((k : Int))).ng)), (nth ts ((k : Int))).rv.v, (.int .i64 ((nth ts ((k : Int))).mn)), (.int .i64 ((nth ts ((k : Int))).mx)), (.bool ((nth ts ((k : Int))).lz)), (nth ts ((k : Int))).kv.v] (τ7 0) b7x8 w7 := f7.rb 5 e8 rfl
   clear f7
   show Code.wp _ _ _ a7 w7
   refine wp_seq ?_
   refine region_St (bf := [0, 0, 3, 7, 0, 31]) (sp := [det _ 22 _, det _ 23 _, det _ 24 _, det _ 25 _, box _ _ 1 9 [(.int .i64 (0)), (.string ((⟨#[]⟩ : ByteArray))), (.bool (false)), (.slice none 0 0), (.int .i64 (0)), (.int .i64 (0)), (.bool (false)), (.slice none 0 0)], box _ _ 1 9 [(.int .i64 ((nth us ((k : Int))).k)), (.string ((nth us ((k : Int))).ch)), (.bool ((nth us ((k : Int))).ng)), (nth us ((k : Int))).rv.v, (.int .i64 ((nth us ((k : Int))).mn)), (.int .i64 ((nth us ((k : Int))).mx)), (.bool ((nth us ((k : Int))).lz)), (nth us ((k : Int))).kv.v]]) [ib r0] mixed st7 (by kernel_rfl) ⟨r0, trivial⟩
    ⟨Ob.d fun c => r_move rfl (c.p e1),
    Ob.d fun c => r_move rfl (c.p e7),
    Ob.d fun c => r_indexAddr rfl Try.underlying23 Try.sizeOf25 (c.n 0 rfl) (hU.at st7.ext).sl.sl (c.n 1 rfl) (by omega) (by omega),
    Ob.d fun c => r_loadN (vs := [(.int .i64 ((nth us ((k : Int))).k)), (.string ((nth us ((k : Int))).ch)), (.bool ((nth us ((k : Int))).ng)), (nth us ((k : Int))).rv.v, (.int .i64 ((nth us ((k : Int))).mn)), (.int .i64 ((nth us ((k : Int))).mx)), (.bool ((nth us ((k : Int))).lz)), (nth us ((k : Int))).kv.v]) rfl Try.isAgg25 Try.sizeOf25 (c.n 2 rfl) rfl (fun _ _ hj => ((hU.at (st7.ext.trans c.J.ext)).sl).elem (nth_some (i := (k : Int)) (by omega) (by omega)) hj),
    Ob.alloc rfl rfl rfl rfl Try.zeroValue25 rfl,
    Ob.storeBox (off := 0) (v := (.agg #[(.int .i64 ((nth us ((k : Int))).k)), (.string ((nth us ((k : Int))).ch)), (.bool ((nth us ((k : Int))).ng)), (nth us ((k : Int))).rv.v, (.int .i64 ((nth us ((k : Int))).mn)), (.int .i64 ((nth us ((k : Int))).mx)), (.bool ((nth us ((k : Int))).lz)), (nth us ((k : Int))).kv.v])) rfl rfl rfl rfl Try.sizeOf25 (Nat.le_of_ble_eq_true rfl) (by simp [Value.cells, Value.oneCell', Sv.v]) rfl (fun _ _ _ _ c => ⟨c.rb 4 rfl, (c.rb 4 rfl).ptr, (c.n 3 rfl)⟩), trivial⟩ ?_
   intro a8 w8 τ8 st8 f8
   obtain ⟨b8x9, e9⟩ : ∃ b, get a8 9 = b := ⟨_, rfl⟩
   obtain ⟨e1, e2, e7, e8, e15, e16, e17, e18, -⟩ := f8.ks [(1, _), (2, _), (7, _), (8, _), (15, _), (16, _), (17, _), (18, _)] ⟨e1, e2, e7, e8, e15, e16, e17, e18, trivial⟩
   replace r0 := f8.ib 0 rfl
   have r1 : boxR 25 [(.int .i64 ((nth us ((k : Int))).k)), (.string ((nth us ((k : Int))).ch)), (.bool ((nth us ((k : Int))).ng)), (nth us ((k : Int))).rv.v, (.int .i64 ((nth us ((k : Int))).mn)), (.int .i64 ((nth us ((k : Int))).mx)), (.bool ((nth us ((k : Int))).lz)), (nth us ((k : Int))).kv.v] (τ8 1) b8x9 w8 := f8.rb 5 e9 rfl
   clear f8
   show Code.wp _ _ _ a8 w8
   refine wp_seq ?_
   refine region_St (bf := [0, 0, 0, 7, 15]) (sp := [det _ 26 _, det _ 27 _, det _ 28 _, det _ 29 _, det _ 30 _]) [ib r0, ib r1] mixed st8 (by kernel_rfl) ⟨r0, r1, trivial⟩
    ⟨Ob.d fun c => r_move rfl (c.p e2),
    Ob.d fun c => r_loadN (vs := [(.int .i64 ((nth ts ((k : Int))).k)), (.string ((nth ts ((k : Int))).ch)), (.bool ((nth ts ((k : Int))).ng)), (nth ts ((k : Int))).rv.v, (.int .i64 ((nth ts ((k : Int))).mn)), (.int .i64 ((nth ts ((k : Int))).mx)), (.bool ((nth ts ((k : Int))).lz)), (nth ts ((k : Int))).kv.v]) rfl Try.isAgg25 Try.sizeOf25 ((c.p e8).trans r0.ptr) rfl (fun _ _ hj => (c.ib 0 rfl).cell hj),
    Ob.d fun c => r_loadN (vs := [(.int .i64 ((nth us ((k : Int))).k)), (.string ((nth us ((k : Int))).ch)), (.bool ((nth us ((k : Int))).ng)), (nth us ((k : Int))).rv.v, (.int .i64 ((nth us ((k : Int))).mn)), (.int .i64 ((nth us ((k : Int))).mx)), (.bool ((nth us ((k : Int))).lz)), (nth us ((k : Int))).kv.v]) rfl Try.isAgg25 Try.sizeOf25 ((c.p e9).trans r1.ptr) rfl (fun _ _ hj => (c.ib 1 rfl).cell hj),
    Ob.c fun c => ⟨_, _, (e_call2 rfl (c.n 0 rfl) Try.call11 (c.n 1 rfl) (c.n 2 rfl)), ih _ (nth_memI (by omega) (by omega)) (nth us ((k : Int))) _ ((hS.at (st8.ext.trans c.J.ext)).el (by omega) (by omega)) ((hU.at (st8.ext.trans c.J.ext)).el (by omega) (by omega))⟩,
    Ob.d fun c => r_not rfl (c.n 3 rfl), trivial⟩ ?_
   intro a9 w9 τ9 st9 f9
   obtain ⟨e1, e2, e7, e8, e9, e15, e16, e17, e18, -⟩ := f9.ks [(1, _), (2, _), (7, _), (8, _), (9, _), (15, _), (16, _), (17, _), (18, _)] ⟨e1, e2, e7, e8, e9, e15, e16, e17, e18, trivial⟩
   have e30 : get a9 30 = (.bool (!(sameF (nth ts ((k : Int))) (nth us ((k : Int)))))) := f9.v 4 rfl
   replace r0 := f9.ib 0 rfl
   replace r1 := f9.ib 1 rfl
   clear f9
   show Code.wp _ _ _ a9 w9
   refine wp_cond_split (t := !(sameF (nth ts ((k : Int))) (nth us ((k : Int))))) e30 (fun hc3 => ?_) (fun hc3 => ?_)
   · have hd3 := hc3; try simp only [Bool.not_eq_true', Bool.not_eq_false'] at hd3
     refine wp_seq ?_
     refine region_St (bf := [0]) (sp := [det _ 6 _]) [ib r0, ib r1] mixed st9 (by kernel_rfl) ⟨r0, r1, trivial⟩
      ⟨Ob.d fun c => r_assign rfl rfl, trivial⟩ ?_
     intro a10 w10 τ10 st10 f10
     obtain ⟨e1, e2, e7, e8, e9, e15, e16, e17, e18, e30, -⟩ := f10.ks [(1, _), (2, _), (7, _), (8, _), (9, _), (15, _), (16, _), (17, _), (18, _), (30, _)] ⟨e1, e2, e7, e8, e9, e15, e16, e17, e18, e30, trivial⟩
     have e6 : get a10 6 = (.bool (false)) := f10.v 0 rfl
     replace r0 := f10.ib 0 rfl
     replace r1 := f10.ib 1 rfl
     clear f10
     show Code.wp _ _ _ a10 w10
     refine wp_ret ?_
     repeat (first | with_reducible refine then_ret ?_ | with_reducible refine block_ret ?_)
     refine ret1 (fn := Try.f30) rfl st10.defers e6 ?_
     exact ⟨congrArg _ (congrArg _ (by first | exact (samesF_len (by omega)).symm | exact (samesF_no (k := k) (by omega) (by omega) (by simpa using (by assumption))).symm | exact (samesF_yes q1 (by omega) q2).symm)), st10.ext0⟩
   have hd3 := hc3; try simp only [Bool.not_eq_true', Bool.not_eq_false'] at hd3
   refine wp_skip ?_
   show _
   show Code.wp _ _ _ a9 w9
   refine region_St (bf := [0, 1]) (sp := [det _ 31 _, det _ 17 _]) [ib r0, ib r1] mixed st9 (by kernel_rfl) ⟨r0, r1, trivial⟩
    ⟨Ob.d fun c => r_add rfl (c.p e17) rfl (by omega),
    Ob.d fun c => r_move rfl (c.n 0 rfl), trivial⟩ ?_
   intro a11 w11 τ11 st11 f11
   obtain ⟨e1, e2, e7, e8, e9, e15, e16, e18, e30, -⟩ := f11.ks [(1, _), (2, _), (7, _), (8, _), (9, _), (15, _), (16, _), (18, _), (30, _)] ⟨e1, e2, e7, e8, e9, e15, e16, e18, e30, trivial⟩
   have e17 : get a11 17 = (.int .i64 ((k : Int) + 1)) := f11.v 1 rfl
   replace r0 := f11.ib 0 rfl
   replace r1 := f11.ib 1 rfl
   clear f11
   refine ⟨⟨k + 1, τ11, ?_, ?_, ?_, st11, (e17.trans (int_eq (by omega))), e1, e2, e15, e16⟩, ?_⟩
   · omega
   · omega
   · exact samesF_step (by omega) (by omega) q2 (by simpa using (by assumption))
   · simp only [m17, e17, intOf]; omega
 try simp only [decide_eq_false_iff_not, Int.not_lt] at hc2
 refine wp_exit ?_
 repeat (with_reducible refine then_exit ?_)
 refine exit_here ?_
 show Code.wp _ _ _ a6 w6
 refine wp_seq ?_
 refine region_St (bf := [0]) (sp := [det _ 6 _]) [] mixed st6 (by kernel_rfl) trivial
  ⟨Ob.d fun c => r_assign rfl rfl, trivial⟩ ?_
 intro a12 w12 τ12 st12 f12
 have e6 : get a12 6 = (.bool (true)) := f12.v 0 rfl
 clear f12
 show Code.wp _ _ _ a12 w12
 refine wp_ret ?_
 repeat (first | with_reducible refine then_ret ?_ | with_reducible refine block_ret ?_)
 refine ret1 (fn := Try.f30) rfl st12.defers e6 ?_
 exact ⟨congrArg _ (congrArg _ (by first | exact (samesF_len (by omega)).symm | exact (samesF_no (k := k) (by omega) (by omega) (by simpa using (by assumption))).symm | exact (samesF_yes q1 (by omega) q2).symm)), st12.ext0⟩

set_option maxRecDepth 100000 in
theorem same_c_step (t : Tr) (ih : ∀ k ∈ t.kids, ∀ (b : Tr) (w : World), TrS w k → TrS w b → Calls Try.prog 11 #[k.v, b.v] w (fun e w' => e = .returned (.bool (sameF k b)) ∧ Ext none' w w')) (b : Tr) (w : World) (hT : TrS w t) (hB : TrS w b) : Calls Try.prog 11 #[t.v, b.v] w (fun e w' => e = .returned (.bool (sameF t b)) ∧ Ext none' w w') := by
 refine enter (n := 59) Try.func11 rfl rfl (Nat.le_of_ble_eq_true rfl) ?_
 intro a0 τ0 ha st0
 have e0 : get a0 0 = (.agg #[(.int .i64 (t.k)), (.string (t.ch)), (.bool (t.ng)), t.rv.v, (.int .i64 (t.mn)), (.int .i64 (t.mx)), (.bool (t.lz)), t.kv.v]) := ha 0 _ rfl
 have e1 : get a0 1 = (.agg #[(.int .i64 (b.k)), (.string (b.ch)), (.bool (b.ng)), b.rv.v, (.int .i64 (b.mn)), (.int .i64 (b.mx)), (.bool (b.lz)), b.kv.v]) := ha 1 _ rfl
 clear ha
 have hle := hT.kids.le
 have hle2 := hB.kids.le
 have hle3 := hT.rows.le
 have hle4 := hB.rows.le
 refine wp_seq ?_
 refine region_St (bf := [0, 0, 0]) (sp := [box _ _ 0 2 [(.int .i64 (t.k)), (.string (t.ch)), (.bool (t.ng)), t.rv.v, (.int .i64 (t.mn)), (.int .i64 (t.mx)), (.bool (t.lz)), t.kv.v], box _ _ 1 3 [(.int .i64 (b.k)), (.string (b.ch)), (.bool (b.ng)), b.rv.v, (.int .i64 (b.mn)), (.int .i64 (b.mx)), (.bool (b.lz)), b.kv.v], det _ 4 _]) [] mixed st0 (by kernel_rfl) trivial
  ⟨Ob.box (v := (.agg #[(.int .i64 (t.k)), (.string (t.ch)), (.bool (t.ng)), t.rv.v, (.int .i64 (t.mn)), (.int .i64 (t.mx)), (.bool (t.lz)), t.kv.v])) rfl rfl rfl rfl rfl (fun _ _ _ _ c => (c.p e0)),
  Ob.box (v := (.agg #[(.int .i64 (b.k)), (.string (b.ch)), (.bool (b.ng)), b.rv.v, (.int .i64 (b.mn)), (.int .i64 (b.mx)), (.bool (b.lz)), b.kv.v])) rfl rfl rfl rfl rfl (fun _ _ _ _ c => (c.p e1)),
  Ob.d fun c => r_assign rfl rfl, trivial⟩ ?_
 intro a1 w1 τ1 st1 f1
 obtain ⟨b1x2, e2⟩ : ∃ b, get a1 2 = b := ⟨_, rfl⟩
 obtain ⟨b1x3, e3⟩ : ∃ b, get a1 3 = b := ⟨_, rfl⟩
 have e4 : get a1 4 = (.bool (false)) := f1.v 2 rfl
 have r0 : boxR 25 [(.int .i64 (t.k)), (.string (t.ch)), (.bool (t.ng)), t.rv.v, (.int .i64 (t.mn)), (.int .i64 (t.mx)), (.bool (t.lz)), t.kv.v] (τ1 0) b1x2 w1 := f1.rb 0 e2 rfl
 have r1 : boxR 25 [(.int .i64 (b.k)), (.string (b.ch)), (.bool (b.ng)), b.rv.v, (.int .i64 (b.mn)), (.int .i64 (b.mx)), (.bool (b.lz)), b.kv.v] (τ1 1) b1x3 w1 := f1.rb 1 e3 rfl
 clear f1
 show Code.wp _ _ _ a1 w1
 refine wp_seq ?_
 refine region_St (bf := [0, 1, 0, 4, 15, 31, 63, 127, 63, 319, 1023, 2047, 4095, 8191, 16383, 8191, 40959, 131071, 262143, 524287, 1048575, 2097151, 1048575, 5242879, 16777215, 33554431, 67108863, 134217727, 268435455, 134217727, 671088639, 2147483647, 4294967295, 8589934591, 17179869183, 34359738367, 17179869183, 85899345919, 274877906943, 549755813887, 1099511627775, 2199023255551, 4398046511103, 2199023255551, 10995116277759, 35184372088831, 70368744177663, 140737488355327, 281474976710655, 562949953421311, 281474976710655, 1407374883553279, 4503599627370495, 9007199254740991, 18014398509481983]) (sp := [det _ 5 _, det _ 6 _, det _ 7 _, det _ 8 _, det _ 9 _, det _ 10 _, gdet _ 11 _ _, gdet _ 12 _ _, gdet _ 13 _ _, gdet _ 14 _ _, gdet _ 15 _ _, det _ 16 _, det _ 17 _, gdet _ 18 _ _, gdet _ 19 _ _, gdet _ 20 _ _, gdet _ 21 _ _, gdet _ 22 _ _, det _ 23 _, det _ 24 _, gdet _ 25 _ _, gdet _ 26 _ _, gdet _ 27 _ _, gdet _ 28 _ _, gdet _ 29 _ _, det _ 30 _, det _ 31 _, gdet _ 32 _ _, gdet _ 33 _ _, gdet _ 34 _ _, gdet _ 35 _ _, gdet _ 36 _ _, det _ 37 _, det _ 38 _, gdet _ 39 _ _, gdet _ 40 _ _, gdet _ 41 _ _, gdet _ 42 _ _, gdet _ 43 _ _, det _ 44 _, det _ 45 _, gdet _ 46 _ _, gdet _ 47 _ _, gdet _ 48 _ _, gdet _ 49 _ _, gdet _ 50 _ _, det _ 51 _, det _ 52 _, gdet _ 53 _ _, gdet _ 54 _ _, gdet _ 55 _ _, gdet _ 56 _ _, gdet _ 57 _ _, det _ 58 _, det _ 4 _]) [ib r0, ib r1] mixed st1 (by kernel_rfl) ⟨r0, r1, trivial⟩
  ⟨Ob.d fun c => r_fieldAddr rfl Try.underlying25 rfl rfl Try.sizeOf3 ((c.p e2).trans r0.ptr),
  Ob.d fun c => r_load1 rfl Try.isAgg3 (c.n 0 rfl) ((c.ib 0 rfl).cell (j := 0) rfl),
  Ob.d fun c => r_fieldAddr rfl Try.underlying25 rfl rfl Try.sizeOf3 ((c.p e3).trans r1.ptr),
  Ob.d fun c => r_load1 rfl Try.isAgg3 (c.n 2 rfl) ((c.ib 1 rfl).cell (j := 0) rfl),
  Ob.d fun c => r_eql rfl (c.n 1 rfl) (c.n 3 rfl),
  Ob.d fun c => r_move rfl (c.n 4 rfl),
  Ob.g 5 true rfl fun c hpc => r_fieldAddr rfl Try.underlying25 rfl rfl Try.sizeOf9 ((c.p e2).trans r0.ptr),
  Ob.g 5 true rfl fun c hpc => r_load1 rfl Try.isAgg9 (c.m 6 rfl hpc) ((c.ib 0 rfl).cell (j := 1) rfl),
  Ob.g 5 true rfl fun c hpc => r_fieldAddr rfl Try.underlying25 rfl rfl Try.sizeOf9 ((c.p e3).trans r1.ptr),
  Ob.g 5 true rfl fun c hpc => r_load1 rfl Try.isAgg9 (c.m 8 rfl hpc) ((c.ib 1 rfl).cell (j := 1) rfl),
  Ob.g 5 true rfl fun c hpc => r_seql rfl (c.m 7 rfl hpc) (c.m 9 rfl hpc),
  Ob.d fun c => r_and rfl (c.n 5 rfl) (fun h => c.m 10 rfl h),
  Ob.d fun c => r_move rfl (c.n 11 rfl),
  Ob.g 12 true rfl fun c hpc => r_fieldAddr rfl Try.underlying25 rfl rfl Try.sizeOf4 ((c.p e2).trans r0.ptr),
  Ob.g 12 true rfl fun c hpc => r_load1 rfl Try.isAgg4 (c.m 13 rfl hpc) ((c.ib 0 rfl).cell (j := 2) rfl),
  Ob.g 12 true rfl fun c hpc => r_fieldAddr rfl Try.underlying25 rfl rfl Try.sizeOf4 ((c.p e3).trans r1.ptr),
  Ob.g 12 true rfl fun c hpc => r_load1 rfl Try.isAgg4 (c.m 15 rfl hpc) ((c.ib 1 rfl).cell (j := 2) rfl),
  Ob.g 12 true rfl fun c hpc => r_beql rfl Try.underlying4 (c.m 14 rfl hpc) (c.m 16 rfl hpc),
  Ob.d fun c => r_and rfl (c.n 12 rfl) (fun h => c.m 17 rfl h),
  Ob.d fun c => r_move rfl (c.n 18 rfl),
  Ob.g 19 true rfl fun c hpc => r_fieldAddr rfl Try.underlying25 rfl rfl Try.sizeOf22 ((c.p e2).trans r0.ptr),
  Ob.g 19 true rfl fun c hpc => r_load1 rfl Try.isAgg22 (c.m 20 rfl hpc) ((c.ib 0 rfl).cell (j := 3) rfl),
  Ob.g 19 true rfl fun c hpc => r_fieldAddr rfl Try.underlying25 rfl rfl Try.sizeOf22 ((c.p e3).trans r1.ptr),
  Ob.g 19 true rfl fun c hpc => r_load1 rfl Try.isAgg22 (c.m 22 rfl hpc) ((c.ib 1 rfl).cell (j := 3) rfl),
  Ob.gc 19 true rfl fun c hpc => ⟨_, _, (e_call2 rfl rfl Try.call29 (c.m 21 rfl hpc) (c.m 23 rfl hpc)), eqRows_c t.rv.v b.rv.v t.rows b.rows _ (hT.at (st1.ext.trans c.J.ext)).rows (hB.at (st1.ext.trans c.J.ext)).rows⟩,
  Ob.d fun c => r_and rfl (c.n 19 rfl) (fun h => c.m 24 rfl h),
  Ob.d fun c => r_move rfl (c.n 25 rfl),
  Ob.g 26 true rfl fun c hpc => r_fieldAddr rfl Try.underlying25 rfl rfl Try.sizeOf3 ((c.p e2).trans r0.ptr),
  Ob.g 26 true rfl fun c hpc => r_load1 rfl Try.isAgg3 (c.m 27 rfl hpc) ((c.ib 0 rfl).cell (j := 4) rfl),
  Ob.g 26 true rfl fun c hpc => r_fieldAddr rfl Try.underlying25 rfl rfl Try.sizeOf3 ((c.p e3).trans r1.ptr),
  Ob.g 26 true rfl fun c hpc => r_load1 rfl Try.isAgg3 (c.m 29 rfl hpc) ((c.ib 1 rfl).cell (j := 4) rfl),
  Ob.g 26 true rfl fun c hpc => r_eql rfl (c.m 28 rfl hpc) (c.m 30 rfl hpc),
  Ob.d fun c => r_and rfl (c.n 26 rfl) (fun h => c.m 31 rfl h),
  Ob.d fun c => r_move rfl (c.n 32 rfl),
  Ob.g 33 true rfl fun c hpc => r_fieldAddr rfl Try.underlying25 rfl rfl Try.sizeOf3 ((c.p e2).trans r0.ptr),
  Ob.g 33 true rfl fun c hpc => r_load1 rfl Try.isAgg3 (c.m 34 rfl hpc) ((c.ib 0 rfl).cell (j := 5) rfl),
  Ob.g 33 true rfl fun c hpc => r_fieldAddr rfl Try.underlying25 rfl rfl Try.sizeOf3 ((c.p e3).trans r1.ptr),
  Ob.g 33 true rfl fun c hpc => r_load1 rfl Try.isAgg3 (c.m 36 rfl hpc) ((c.ib 1 rfl).cell (j := 5) rfl),
  Ob.g 33 true rfl fun c hpc => r_eql rfl (c.m 35 rfl hpc) (c.m 37 rfl hpc),
  Ob.d fun c => r_and rfl (c.n 33 rfl) (fun h => c.m 38 rfl h),
  Ob.d fun c => r_move rfl (c.n 39 rfl),
  Ob.g 40 true rfl fun c hpc => r_fieldAddr rfl Try.underlying25 rfl rfl Try.sizeOf4 ((c.p e2).trans r0.ptr),
  Ob.g 40 true rfl fun c hpc => r_load1 rfl Try.isAgg4 (c.m 41 rfl hpc) ((c.ib 0 rfl).cell (j := 6) rfl),
  Ob.g 40 true rfl fun c hpc => r_fieldAddr rfl Try.underlying25 rfl rfl Try.sizeOf4 ((c.p e3).trans r1.ptr),
  Ob.g 40 true rfl fun c hpc => r_load1 rfl Try.isAgg4 (c.m 43 rfl hpc) ((c.ib 1 rfl).cell (j := 6) rfl),
  Ob.g 40 true rfl fun c hpc => r_beql rfl Try.underlying4 (c.m 42 rfl hpc) (c.m 44 rfl hpc),
  Ob.d fun c => r_and rfl (c.n 40 rfl) (fun h => c.m 45 rfl h),
  Ob.d fun c => r_move rfl (c.n 46 rfl),
  Ob.g 47 true rfl fun c hpc => r_fieldAddr rfl Try.underlying25 rfl rfl Try.sizeOf23 ((c.p e2).trans r0.ptr),
  Ob.g 47 true rfl fun c hpc => r_load1 rfl Try.isAgg23 (c.m 48 rfl hpc) ((c.ib 0 rfl).cell (j := 7) rfl),
  Ob.g 47 true rfl fun c hpc => r_fieldAddr rfl Try.underlying25 rfl rfl Try.sizeOf23 ((c.p e3).trans r1.ptr),
  Ob.g 47 true rfl fun c hpc => r_load1 rfl Try.isAgg23 (c.m 50 rfl hpc) ((c.ib 1 rfl).cell (j := 7) rfl),
  Ob.gc 47 true rfl fun c hpc => ⟨_, _, (e_call3 rfl rfl Try.call30 (c.m 49 rfl hpc) (c.m 51 rfl hpc) rfl), eqFunc_c _ _ _ _ ih _ (hT.at (st1.ext.trans c.J.ext)).tl (hB.at (st1.ext.trans c.J.ext)).tl⟩,
  Ob.d fun c => r_and rfl (c.n 47 rfl) (fun h => c.m 52 rfl h),
  Ob.d fun c => r_assign rfl (c.n 53 rfl), trivial⟩ ?_
 intro a2 w2 τ2 st2 f2
 have e4 : get a2 4 = (.bool ((((((((decide (t.k = b.k)) && (eqT t.ch b.ch)) && (t.ng == b.ng)) && (decide (t.rows = b.rows))) && (decide (t.mn = b.mn))) && (decide (t.mx = b.mx))) && (t.lz == b.lz)) && (samesF t.kids b.kids))) := f2.v 54 rfl
 clear f2
 show Code.wp _ _ _ a2 w2
 refine wp_ret ?_
 repeat (first | with_reducible refine then_ret ?_ | with_reducible refine block_ret ?_)
 refine ret1 (fn := Try.f11) rfl st2.defers e4 ?_
 exact ⟨congrArg _ (congrArg _ (by rw [Bool.eq_iff_iff, sameF_parts]; simp [eqT_iff, and_assoc])), st2.ext0⟩

theorem same_c (t : Tr) : ∀ (b : Tr) (w : World), TrS w t → TrS w b → Calls Try.prog 11 #[t.v, b.v] w (fun e w' => e = .returned (.bool (sameF t b)) ∧ Ext none' w w') := Tr.ind (P := fun t => ∀ (b : Tr) (w : World), TrS w t → TrS w b → Calls Try.prog 11 #[t.v, b.v] w (fun e w' => e = .returned (.bool (sameF t b)) ∧ Ext none' w w')) same_c_step t

set_option maxRecDepth 100000 in
theorem refSame_c_step (t : Tr) (ih : ∀ k ∈ t.kids, ∀ (b : Tr) (w : World), TrS w k → TrS w b → Calls Try.prog 12 #[k.v, b.v] w (fun e w' => e = .returned (.bool (sameF k b)) ∧ Ext none' w w')) (b : Tr) (w : World) (hT : TrS w t) (hB : TrS w b) : Calls Try.prog 12 #[t.v, b.v] w (fun e w' => e = .returned (.bool (sameF t b)) ∧ Ext none' w w') := by
 refine enter (n := 102) Try.func12 rfl rfl (Nat.le_of_ble_eq_true rfl) ?_
 intro a0 τ0 ha st0
 have e0 : get a0 0 = (.agg #[(.int .i64 (t.k)), (.string (t.ch)), (.bool (t.ng)), t.rv.v, (.int .i64 (t.mn)), (.int .i64 (t.mx)), (.bool (t.lz)), t.kv.v]) := ha 0 _ rfl
 have e1 : get a0 1 = (.agg #[(.int .i64 (b.k)), (.string (b.ch)), (.bool (b.ng)), b.rv.v, (.int .i64 (b.mn)), (.int .i64 (b.mx)), (.bool (b.lz)), b.kv.v]) := ha 1 _ rfl
 clear ha
 have hle := hT.kids.le
 have hle2 := hB.kids.le
 have hle3 := hT.rows.le
 have hle4 := hB.rows.le
 refine wp_seq ?_
 refine region_St (bf := [0, 0, 0]) (sp := [box _ _ 0 2 [(.int .i64 (t.k)), (.string (t.ch)), (.bool (t.ng)), t.rv.v, (.int .i64 (t.mn)), (.int .i64 (t.mx)), (.bool (t.lz)), t.kv.v], box _ _ 1 3 [(.int .i64 (b.k)), (.string (b.ch)), (.bool (b.ng)), b.rv.v, (.int .i64 (b.mn)), (.int .i64 (b.mx)), (.bool (b.lz)), b.kv.v], det _ 4 _]) [] mixed st0 (by kernel_rfl) trivial
  ⟨Ob.box (v := (.agg #[(.int .i64 (t.k)), (.string (t.ch)), (.bool (t.ng)), t.rv.v, (.int .i64 (t.mn)), (.int .i64 (t.mx)), (.bool (t.lz)), t.kv.v])) rfl rfl rfl rfl rfl (fun _ _ _ _ c => (c.p e0)),
  Ob.box (v := (.agg #[(.int .i64 (b.k)), (.string (b.ch)), (.bool (b.ng)), b.rv.v, (.int .i64 (b.mn)), (.int .i64 (b.mx)), (.bool (b.lz)), b.kv.v])) rfl rfl rfl rfl rfl (fun _ _ _ _ c => (c.p e1)),
  Ob.d fun c => r_assign rfl rfl, trivial⟩ ?_
 intro a1 w1 τ1 st1 f1
 obtain ⟨b1x2, e2⟩ : ∃ b, get a1 2 = b := ⟨_, rfl⟩
 obtain ⟨b1x3, e3⟩ : ∃ b, get a1 3 = b := ⟨_, rfl⟩
 have e4 : get a1 4 = (.bool (false)) := f1.v 2 rfl
 have r0 : boxR 25 [(.int .i64 (t.k)), (.string (t.ch)), (.bool (t.ng)), t.rv.v, (.int .i64 (t.mn)), (.int .i64 (t.mx)), (.bool (t.lz)), t.kv.v] (τ1 0) b1x2 w1 := f1.rb 0 e2 rfl
 have r1 : boxR 25 [(.int .i64 (b.k)), (.string (b.ch)), (.bool (b.ng)), b.rv.v, (.int .i64 (b.mn)), (.int .i64 (b.mx)), (.bool (b.lz)), b.kv.v] (τ1 1) b1x3 w1 := f1.rb 1 e3 rfl
 clear f1
 show Code.wp _ _ _ a1 w1
 refine wp_seq ?_
 refine wp_seq ?_
 refine region_St (bf := [0, 1, 0, 4, 15, 31, 63, 127, 63, 319, 1023, 2047, 4095, 8191, 16383, 8191, 40959, 131071, 262143, 524287, 1048575, 2097151, 1048575, 5242879, 16777215, 33554431, 67108863, 134217727, 268435455, 134217727, 671088639, 2147483647, 4294967295, 8589934591, 17179869183, 34359738367, 17179869183, 85899345919, 274877906943, 549755813887, 1099511627775, 2199023255551, 4398046511103, 8796093022207, 2199023255551, 19791209299967, 54975581388799, 140737488355327, 281474976710655, 562949953421311, 1125899906842623, 2251799813685247, 4503599627370495, 1125899906842623, 10133099161583615, 28147497671065599, 72057594037927935, 144115188075855871]) (sp := [det _ 7 _, det _ 8 _, det _ 9 _, det _ 10 _, det _ 11 _, det _ 12 _, gdet _ 13 _ _, gdet _ 14 _ _, gdet _ 15 _ _, gdet _ 16 _ _, gdet _ 17 _ _, det _ 18 _, det _ 19 _, gdet _ 20 _ _, gdet _ 21 _ _, gdet _ 22 _ _, gdet _ 23 _ _, gdet _ 24 _ _, det _ 25 _, det _ 26 _, gdet _ 27 _ _, gdet _ 28 _ _, gdet _ 29 _ _, gdet _ 30 _ _, gdet _ 31 _ _, det _ 32 _, det _ 33 _, gdet _ 34 _ _, gdet _ 35 _ _, gdet _ 36 _ _, gdet _ 37 _ _, gdet _ 38 _ _, det _ 39 _, det _ 40 _, gdet _ 41 _ _, gdet _ 42 _ _, gdet _ 43 _ _, gdet _ 44 _ _, gdet _ 45 _ _, det _ 46 _, det _ 47 _, gdet _ 48 _ _, gdet _ 49 _ _, gdet _ 50 _ _, gdet _ 51 _ _, gdet _ 52 _ _, gdet _ 53 _ _, gdet _ 54 _ _, det _ 55 _, det _ 56 _, gdet _ 57 _ _, gdet _ 58 _ _, gdet _ 59 _ _, gdet _ 60 _ _, gdet _ 61 _ _, gdet _ 62 _ _, gdet _ 63 _ _, det _ 64 _]) [ib r0, ib r1] mixed st1 (by kernel_rfl) ⟨r0, r1, trivial⟩
  ⟨Ob.d fun c => r_fieldAddr rfl Try.underlying25 rfl rfl Try.sizeOf3 ((c.p e2).trans r0.ptr),
  Ob.d fun c => r_load1 rfl Try.isAgg3 (c.n 0 rfl) ((c.ib 0 rfl).cell (j := 0) rfl),
  Ob.d fun c => r_fieldAddr rfl Try.underlying25 rfl rfl Try.sizeOf3 ((c.p e3).trans r1.ptr),
  Ob.d fun c => r_load1 rfl Try.isAgg3 (c.n 2 rfl) ((c.ib 1 rfl).cell (j := 0) rfl),
  Ob.d fun c => r_neq rfl (c.n 1 rfl) (c.n 3 rfl),
  Ob.d fun c => r_move rfl (c.n 4 rfl),
  Ob.g 5 false rfl fun c hpc => r_fieldAddr rfl Try.underlying25 rfl rfl Try.sizeOf9 ((c.p e2).trans r0.ptr),
  Ob.g 5 false rfl fun c hpc => r_load1 rfl Try.isAgg9 (c.m 6 rfl hpc) ((c.ib 0 rfl).cell (j := 1) rfl),
  Ob.g 5 false rfl fun c hpc => r_fieldAddr rfl Try.underlying25 rfl rfl Try.sizeOf9 ((c.p e3).trans r1.ptr),
  Ob.g 5 false rfl fun c hpc => r_load1 rfl Try.isAgg9 (c.m 8 rfl hpc) ((c.ib 1 rfl).cell (j := 1) rfl),
  Ob.g 5 false rfl fun c hpc => r_sneq rfl (c.m 7 rfl hpc) (c.m 9 rfl hpc),
  Ob.d fun c => r_or rfl (c.n 5 rfl) (fun h => c.m 10 rfl h),
  Ob.d fun c => r_move rfl (c.n 11 rfl),
  Ob.g 12 false rfl fun c hpc => r_fieldAddr rfl Try.underlying25 rfl rfl Try.sizeOf4 ((c.p e2).trans r0.ptr),
  Ob.g 12 false rfl fun c hpc => r_load1 rfl Try.isAgg4 (c.m 13 rfl hpc) ((c.ib 0 rfl).cell (j := 2) rfl),
  Ob.g 12 false rfl fun c hpc => r_fieldAddr rfl Try.underlying25 rfl rfl Try.sizeOf4 ((c.p e3).trans r1.ptr),
  Ob.g 12 false rfl fun c hpc => r_load1 rfl Try.isAgg4 (c.m 15 rfl hpc) ((c.ib 1 rfl).cell (j := 2) rfl),
  Ob.g 12 false rfl fun c hpc => r_bneq rfl Try.underlying4 (c.m 14 rfl hpc) (c.m 16 rfl hpc),
  Ob.d fun c => r_or rfl (c.n 12 rfl) (fun h => c.m 17 rfl h),
  Ob.d fun c => r_move rfl (c.n 18 rfl),
  Ob.g 19 false rfl fun c hpc => r_fieldAddr rfl Try.underlying25 rfl rfl Try.sizeOf3 ((c.p e2).trans r0.ptr),
  Ob.g 19 false rfl fun c hpc => r_load1 rfl Try.isAgg3 (c.m 20 rfl hpc) ((c.ib 0 rfl).cell (j := 4) rfl),
  Ob.g 19 false rfl fun c hpc => r_fieldAddr rfl Try.underlying25 rfl rfl Try.sizeOf3 ((c.p e3).trans r1.ptr),
  Ob.g 19 false rfl fun c hpc => r_load1 rfl Try.isAgg3 (c.m 22 rfl hpc) ((c.ib 1 rfl).cell (j := 4) rfl),
  Ob.g 19 false rfl fun c hpc => r_neq rfl (c.m 21 rfl hpc) (c.m 23 rfl hpc),
  Ob.d fun c => r_or rfl (c.n 19 rfl) (fun h => c.m 24 rfl h),
  Ob.d fun c => r_move rfl (c.n 25 rfl),
  Ob.g 26 false rfl fun c hpc => r_fieldAddr rfl Try.underlying25 rfl rfl Try.sizeOf3 ((c.p e2).trans r0.ptr),
  Ob.g 26 false rfl fun c hpc => r_load1 rfl Try.isAgg3 (c.m 27 rfl hpc) ((c.ib 0 rfl).cell (j := 5) rfl),
  Ob.g 26 false rfl fun c hpc => r_fieldAddr rfl Try.underlying25 rfl rfl Try.sizeOf3 ((c.p e3).trans r1.ptr),
  Ob.g 26 false rfl fun c hpc => r_load1 rfl Try.isAgg3 (c.m 29 rfl hpc) ((c.ib 1 rfl).cell (j := 5) rfl),
  Ob.g 26 false rfl fun c hpc => r_neq rfl (c.m 28 rfl hpc) (c.m 30 rfl hpc),
  Ob.d fun c => r_or rfl (c.n 26 rfl) (fun h => c.m 31 rfl h),
  Ob.d fun c => r_move rfl (c.n 32 rfl),
  Ob.g 33 false rfl fun c hpc => r_fieldAddr rfl Try.underlying25 rfl rfl Try.sizeOf4 ((c.p e2).trans r0.ptr),
  Ob.g 33 false rfl fun c hpc => r_load1 rfl Try.isAgg4 (c.m 34 rfl hpc) ((c.ib 0 rfl).cell (j := 6) rfl),
  Ob.g 33 false rfl fun c hpc => r_fieldAddr rfl Try.underlying25 rfl rfl Try.sizeOf4 ((c.p e3).trans r1.ptr),
  Ob.g 33 false rfl fun c hpc => r_load1 rfl Try.isAgg4 (c.m 36 rfl hpc) ((c.ib 1 rfl).cell (j := 6) rfl),
  Ob.g 33 false rfl fun c hpc => r_bneq rfl Try.underlying4 (c.m 35 rfl hpc) (c.m 37 rfl hpc),
  Ob.d fun c => r_or rfl (c.n 33 rfl) (fun h => c.m 38 rfl h),
  Ob.d fun c => r_move rfl (c.n 39 rfl),
  Ob.g 40 false rfl fun c hpc => r_fieldAddr rfl Try.underlying25 rfl rfl Try.sizeOf22 ((c.p e2).trans r0.ptr),
  Ob.g 40 false rfl fun c hpc => r_load1 rfl Try.isAgg22 (c.m 41 rfl hpc) ((c.ib 0 rfl).cell (j := 3) rfl),
  Ob.g 40 false rfl fun c hpc => r_len rfl Try.underlying22 (c.m 42 rfl hpc) (hT.at st1.ext).rows.sl,
  Ob.g 40 false rfl fun c hpc => r_fieldAddr rfl Try.underlying25 rfl rfl Try.sizeOf22 ((c.p e3).trans r1.ptr),
  Ob.g 40 false rfl fun c hpc => r_load1 rfl Try.isAgg22 (c.m 44 rfl hpc) ((c.ib 1 rfl).cell (j := 3) rfl),
  Ob.g 40 false rfl fun c hpc => r_len rfl Try.underlying22 (c.m 45 rfl hpc) (hB.at st1.ext).rows.sl,
  Ob.g 40 false rfl fun c hpc => r_neq rfl (c.m 43 rfl hpc) (c.m 46 rfl hpc),
  Ob.d fun c => r_or rfl (c.n 40 rfl) (fun h => c.m 47 rfl h),
  Ob.d fun c => r_move rfl (c.n 48 rfl),
  Ob.g 49 false rfl fun c hpc => r_fieldAddr rfl Try.underlying25 rfl rfl Try.sizeOf23 ((c.p e2).trans r0.ptr),
  Ob.g 49 false rfl fun c hpc => r_load1 rfl Try.isAgg23 (c.m 50 rfl hpc) ((c.ib 0 rfl).cell (j := 7) rfl),
  Ob.g 49 false rfl fun c hpc => r_len rfl Try.underlying23 (c.m 51 rfl hpc) (hT.at st1.ext).tl.sl.sl,
  Ob.g 49 false rfl fun c hpc => r_fieldAddr rfl Try.underlying25 rfl rfl Try.sizeOf23 ((c.p e3).trans r1.ptr),
  Ob.g 49 false rfl fun c hpc => r_load1 rfl Try.isAgg23 (c.m 53 rfl hpc) ((c.ib 1 rfl).cell (j := 7) rfl),
  Ob.g 49 false rfl fun c hpc => r_len rfl Try.underlying23 (c.m 54 rfl hpc) (hB.at st1.ext).tl.sl.sl,
  Ob.g 49 false rfl fun c hpc => r_neq rfl (c.m 52 rfl hpc) (c.m 55 rfl hpc),
  Ob.d fun c => r_or rfl (c.n 49 rfl) (fun h => c.m 56 rfl h), trivial⟩ ?_
 intro a2 w2 τ2 st2 f2
 obtain ⟨e2, e3, e4, -⟩ := f2.ks [(2, _), (3, _), (4, _)] ⟨e2, e3, e4, trivial⟩
 have e64 : get a2 64 = (.bool ((((((((!decide (t.k = b.k)) || (!(eqT t.ch b.ch))) || (!(t.ng == b.ng))) || (!decide (t.mn = b.mn))) || (!decide (t.mx = b.mx))) || (!(t.lz == b.lz))) || (!decide ((t.rows.length : Int) = (b.rows.length : Int)))) || (!decide ((t.kids.length : Int) = (b.kids.length : Int))))) := f2.v 57 rfl
 replace r0 := f2.ib 0 rfl
 replace r1 := f2.ib 1 rfl
 clear f2
 show Code.wp _ _ _ a2 w2
 refine wp_cond_split (t := (((((((!decide (t.k = b.k)) || (!(eqT t.ch b.ch))) || (!(t.ng == b.ng))) || (!decide (t.mn = b.mn))) || (!decide (t.mx = b.mx))) || (!(t.lz == b.lz))) || (!decide ((t.rows.length : Int) = (b.rows.length : Int)))) || (!decide ((t.kids.length : Int) = (b.kids.length : Int)))) e64 (fun hc1 => ?_) (fun hc1 => ?_)
 · have hd1 := hc1; try simp only [Bool.or_eq_true, Bool.or_eq_false_iff, Bool.not_eq_true', Bool.not_eq_false', beq_iff_eq, decide_eq_true_eq, decide_eq_false_iff_not] at hd1
   refine wp_seq ?_
   refine region_St (bf := [0]) (sp := [det _ 4 _]) [ib r0, ib r1] mixed st2 (by kernel_rfl) ⟨r0, r1, trivial⟩
    ⟨Ob.d fun c => r_assign rfl rfl, trivial⟩ ?_
   intro a3 w3 τ3 st3 f3
   obtain ⟨e2, e3, -⟩ := f3.ks [(2, _), (3, _)] ⟨e2, e3, trivial⟩
   have e4 : get a3 4 = (.bool (false)) := f3.v 0 rfl
   replace r0 := f3.ib 0 rfl
   replace r1 := f3.ib 1 rfl
   clear f3
   show Code.wp _ _ _ a3 w3
   refine wp_ret ?_
   repeat (first | with_reducible refine then_ret ?_ | with_reducible refine block_ret ?_)
   refine ret1 (fn := Try.f12) rfl st3.defers e4 ?_
   exact ⟨congrArg _ (congrArg _ (by first | exact (same_ne (by assumption)).symm | exact (same_row (k := k) (by assumption)).symm | exact (same_kid (samesF_no (k := m) (by omega) (by omega) (by assumption))).symm)), st3.ext0⟩
 have hd1 := hc1; try simp only [Bool.or_eq_true, Bool.or_eq_false_iff, Bool.not_eq_true', Bool.not_eq_false', beq_iff_eq, decide_eq_true_eq, decide_eq_false_iff_not] at hd1
 refine wp_skip ?_
 show Code.wp _ _ _ a2 w2
 refine wp_seq ?_
 refine wp_seq ?_
 refine region_St (bf := [0]) (sp := [det _ 5 _]) [ib r0, ib r1] mixed st2 (by kernel_rfl) ⟨r0, r1, trivial⟩
  ⟨Ob.d fun c => r_assign rfl rfl, trivial⟩ ?_
 intro a4 w4 τ4 st4 f4
 obtain ⟨e2, e3, e4, -⟩ := f4.ks [(2, _), (3, _), (4, _)] ⟨e2, e3, e4, trivial⟩
 have e5 : get a4 5 = (.int .i64 (0)) := f4.v 0 rfl
 replace r0 := f4.ib 0 rfl
 replace r1 := f4.ib 1 rfl
 clear f4
 show Code.wp _ _ _ a4 w4
 refine wp_block ?_
 refine wp_loop (fun a_ w_ => ∃ (k : Nat) (τ : Nat → Foot), (k ≤ t.rows.length) ∧
      (t.rows.take k = b.rows.take k) ∧
      St (Nw w) w 102 a_ w_ τ ∧
      get a_ 5 = (.int .i64 ((k : Int))) ∧
      get a_ 2 = b1x2 ∧
      get a_ 3 = b1x3 ∧
      boxR 25 [(.int .i64 (t.k)), (.string (t.ch)), (.bool (t.ng)), t.rv.v, (.int .i64 (t.mn)), (.int .i64 (t.mx)), (.bool (t.lz)), t.kv.v] (τ 0) b1x2 w_ ∧
      boxR 25 [(.int .i64 (b.k)), (.string (b.ch)), (.bool (b.ng)), b.rv.v, (.int .i64 (b.mn)), (.int .i64 (b.mx)), (.bool (b.lz)), b.kv.v] (τ 1) b1x3 w_) (fun a_ _ => t.rows.length - (intOf (get a_ 5)).toNat) ?_ ?_
 · refine ⟨0, τ4, ?_, ?_, st4, (e5.trans (int_eq (by omega))), e2, e3, r0, r1⟩
   · omega
   · simp
 intro a5 w5 hI
 obtain ⟨k, τ5, q0, q1, st5, e5, e2, e3, r0, r1⟩ := hI
 have m5 := e5
 refine wp_seq ?_
 refine wp_seq ?_
 refine region_St (bf := [0, 0, 2, 6, 15]) (sp := [det _ 65 _, det _ 66 _, det _ 67 _, det _ 68 _, det _ 69 _]) [ib r0, ib r1] mixed st5 (by kernel_rfl) ⟨r0, r1, trivial⟩
  ⟨Ob.d fun c => r_move rfl (c.p e5),
  Ob.d fun c => r_fieldAddr rfl Try.underlying25 rfl rfl Try.sizeOf22 ((c.p e2).trans r0.ptr),
  Ob.d fun c => r_load1 rfl Try.isAgg22 (c.n 1 rfl) ((c.ib 0 rfl).cell (j := 3) rfl),
  Ob.d fun c => r_len rfl Try.underlying22 (c.n 2 rfl) (hT.at st5.ext).rows.sl,
  Ob.d fun c => r_lss rfl (c.n 0 rfl) (c.n 3 rfl), trivial⟩ ?_
 intro a6 w6 τ6 st6 f6
 obtain ⟨e2, e3, e5, -⟩ := f6.ks [(2, _), (3, _), (5, _)] ⟨e2, e3, e5, trivial⟩
 have e69 : get a6 69 = (.bool (decide ((k : Int) < (t.rows.length : Int)))) := f6.v 4 rfl
 replace r0 := f6.ib 0 rfl
 replace r1 := f6.ib 1 rfl
 clear f6
 show Code.wp _ _ _ a6 w6
 refine wp_cond_split (t := decide ((k : Int) < (t.rows.length : Int))) e69 (fun hc2 => ?_) (fun hc2 => ?_)
 · try simp only [decide_eq_true_eq] at hc2
   refine wp_skip ?_
   show Code.wp _ _ _ a6 w6
   refine wp_seq ?_
   refine wp_block ?_
   refine wp_seq ?_
   refine region_St (bf := [0, 1, 0, 7, 15, 0, 32, 0, 224, 480, 1023]) (sp := [det _ 72 _, det _ 73 _, det _ 74 _, det _ 75 _, det _ 76 _, det _ 77 _, det _ 78 _, det _ 79 _, det _ 80 _, det _ 81 _, det _ 82 _]) [ib r0, ib r1] mixed st6 (by kernel_rfl) ⟨r0, r1, trivial⟩
    ⟨Ob.d fun c => r_fieldAddr rfl Try.underlying25 rfl rfl Try.sizeOf22 ((c.p e2).trans r0.ptr),
    Ob.d fun c => r_load1 rfl Try.isAgg22 (c.n 0 rfl) ((c.ib 0 rfl).cell (j := 3) rfl),
    Ob.d fun c => r_move rfl (c.p e5),
    Ob.d fun c => r_indexAddr rfl Try.underlying22 Try.sizeOf43 (c.n 1 rfl) (hT.at st6.ext).rows.sl (c.n 2 rfl) (by omega) (by omega),
    Ob.d fun c => r_loadN (vs := [(.string ((nth t.rows ((k : Int))).1)), (.string ((nth t.rows ((k : Int))).2))]) rfl Try.isAgg43 Try.sizeOf43 (c.n 3 rfl) rfl (fun _ _ hj => ((hT.at (st6.ext.trans c.J.ext)).rows).elem (nth_some (i := (k : Int)) (by omega) (by omega)) hj),
    Ob.d fun c => r_fieldAddr rfl Try.underlying25 rfl rfl Try.sizeOf22 ((c.p e3).trans r1.ptr),
    Ob.d fun c => r_load1 rfl Try.isAgg22 (c.n 5 rfl) ((c.ib 1 rfl).cell (j := 3) rfl),
    Ob.d fun c => r_move rfl (c.p e5),
    Ob.d fun c => r_indexAddr rfl Try.underlying22 Try.sizeOf43 (c.n 6 rfl) (hB.at st6.ext).rows.sl (c.n 7 rfl) (by omega) (by omega),
    Ob.d fun c => r_loadN (vs := [(.string ((nth b.rows ((k : Int))).1)), (.string ((nth b.rows ((k : Int))).2))]) rfl Try.isAgg43 Try.sizeOf43 (c.n 8 rfl) rfl (fun _ _ hj => ((hB.at (st6.ext.trans c.J.ext)).rows).elem (nth_some (i := (k : Int)) (by omega) (by omega)) hj),
    Ob.d fun c => rw_ne rfl (c.n 4 rfl) (c.n 9 rfl), trivial⟩ ?_
   intro a7 w7 τ7 st7 f7
   obtain ⟨e2, e3, e5, e69, -⟩ := f7.ks [(2, _), (3, _), (5, _), (69, _)] ⟨e2, e3, e5, e69, trivial⟩
   have e82 : get a7 82 = (.bool (!(rwB (nth t.rows ((k : Int))) (nth b.rows ((k : Int)))))) := f7.v 10 rfl
   replace r0 := f7.ib 0 rfl
   replace r1 := f7.ib 1 rfl
   clear f7
   show Code.wp _ _ _ a7 w7
   refine wp_cond_split (t := !(rwB (nth t.rows ((k : Int))) (nth b.rows ((k : Int))))) e82 (fun hc3 => ?_) (fun hc3 => ?_)
   · have hd3 := hc3; try simp only [Bool.not_eq_true', Bool.not_eq_false', decide_eq_true_eq, decide_eq_false_iff_not, rwB] at hd3
     refine wp_seq ?_
     refine region_St (bf := [0]) (sp := [det _ 4 _]) [ib r0, ib r1] mixed st7 (by kernel_rfl) ⟨r0, r1, trivial⟩
      ⟨Ob.d fun c => r_assign rfl rfl, trivial⟩ ?_
     intro a8 w8 τ8 st8 f8
     obtain ⟨e2, e3, e5, e69, e82, -⟩ := f8.ks [(2, _), (3, _), (5, _), (69, _), (82, _)] ⟨e2, e3, e5, e69, e82, trivial⟩
     have e4 : get a8 4 = (.bool (false)) := f8.v 0 rfl
     replace r0 := f8.ib 0 rfl
     replace r1 := f8.ib 1 rfl
     clear f8
     show Code.wp _ _ _ a8 w8
     refine wp_ret ?_
     repeat (first | with_reducible refine then_ret ?_ | with_reducible refine block_ret ?_)
     refine ret1 (fn := Try.f12) rfl st8.defers e4 ?_
     exact ⟨congrArg _ (congrArg _ (by first | exact (same_ne (by assumption)).symm | exact (same_row (k := k) (by assumption)).symm | exact (same_kid (samesF_no (k := m) (by omega) (by omega) (by assumption))).symm)), st8.ext0⟩
   have hd3 := hc3; try simp only [Bool.not_eq_true', Bool.not_eq_false', decide_eq_true_eq, decide_eq_false_iff_not, rwB] at hd3
   refine wp_skip ?_
   show _
   show Code.wp _ _ _ a7 w7
   refine region_St (bf := [0, 1, 3]) (sp := [det _ 70 _, det _ 71 _, det _ 5 _]) [ib r0, ib r1] mixed st7 (by kernel_rfl) ⟨r0, r1, trivial⟩
    ⟨Ob.d fun c => r_move rfl (c.p e5),
    Ob.d fun c => r_add rfl (c.n 0 rfl) rfl (by omega),
    Ob.d fun c => r_assign rfl (c.n 1 rfl), trivial⟩ ?_
   intro a9 w9 τ9 st9 f9
   obtain ⟨e2, e3, e69, e82, -⟩ := f9.ks [(2, _), (3, _), (69, _), (82, _)] ⟨e2, e3, e69, e82, trivial⟩
   have e5 : get a9 5 = (.int .i64 ((k : Int) + 1)) := f9.v 2 rfl
   replace r0 := f9.ib 0 rfl
   replace r1 := f9.ib 1 rfl
   clear f9
   refine ⟨⟨k + 1, τ9, ?_, ?_, st9, (e5.trans (int_eq (by omega))), e2, e3, r0, r1⟩, ?_⟩
   · omega
   · exact take_same (by omega) (by omega) q1 (by assumption)
   · simp only [m5, e5, intOf]; omega
 try simp only [decide_eq_false_iff_not, Int.not_lt] at hc2
 refine wp_exit ?_
 repeat (with_reducible refine then_exit ?_)
 refine exit_here ?_
 show Code.wp _ _ _ a6 w6
 refine wp_seq ?_
 refine wp_seq ?_
 refine region_St (bf := [0]) (sp := [det _ 6 _]) [ib r0, ib r1] mixed st6 (by kernel_rfl) ⟨r0, r1, trivial⟩
  ⟨Ob.d fun c => r_assign rfl rfl, trivial⟩ ?_
 intro a10 w10 τ10 st10 f10
 obtain ⟨e2, e3, -⟩ := f10.ks [(2, _), (3, _)] ⟨e2, e3, trivial⟩
 have e6 : get a10 6 = (.int .i64 (0)) := f10.v 0 rfl
 replace r0 := f10.ib 0 rfl
 replace r1 := f10.ib 1 rfl
 clear f10
 show Code.wp _ _ _ a10 w10
 refine wp_block ?_
 refine wp_loop (fun a_ w_ => ∃ (m : Nat) (τ : Nat → Foot), (m ≤ t.kids.length) ∧
      (t.kids.take m).map er = (b.kids.take m).map er ∧
      St (Nw w) w 102 a_ w_ τ ∧
      get a_ 6 = (.int .i64 ((m : Int))) ∧
      get a_ 2 = b1x2 ∧
      get a_ 3 = b1x3 ∧
      boxR 25 [(.int .i64 (t.k)), (.string (t.ch)), (.bool (t.ng)), t.rv.v, (.int .i64 (t.mn)), (.int .i64 (t.mx)), (.bool (t.lz)), t.kv.v] (τ 0) b1x2 w_ ∧
      boxR 25 [(.int .i64 (b.k)), (.string (b.ch)), (.bool (b.ng)), b.rv.v, (.int .i64 (b.mn)), (.int .i64 (b.mx)), (.bool (b.lz)), b.kv.v] (τ 1) b1x3 w_) (fun a_ _ => t.kids.length - (intOf (get a_ 6)).toNat) ?_ ?_
 · refine ⟨0, τ10, ?_, ?_, st10, (e6.trans (int_eq (by omega))), e2, e3, r0, r1⟩
   · omega
   · simp
 intro a11 w11 hI
 obtain ⟨m, τ11, q0, q1, st11, e6, e2, e3, r0, r1⟩ := hI
 have m6 := e6
 refine wp_seq ?_
 refine wp_seq ?_
 refine region_St (bf := [0, 0, 2, 6, 15]) (sp := [det _ 83 _, det _ 84 _, det _ 85 _, det _ 86 _, det _ 87 _]) [ib r0, ib r1] mixed st11 (by kernel_rfl) ⟨r0, r1, trivial⟩
  ⟨Ob.d fun c => r_move rfl (c.p e6),
  Ob.d fun c => r_fieldAddr rfl Try.underlying25 rfl rfl Try.sizeOf23 ((c.p e2).trans r0.ptr),
  Ob.d fun c => r_load1 rfl Try.isAgg23 (c.n 1 rfl) ((c.ib 0 rfl).cell (j := 7) rfl),
  Ob.d fun c => r_len rfl Try.underlying23 (c.n 2 rfl) (hT.at st11.ext).tl.sl.sl,
  Ob.d fun c => r_lss rfl (c.n 0 rfl) (c.n 3 rfl), trivial⟩ ?_
 intro a12 w12 τ12 st12 f12
 obtain ⟨e2, e3, e6, -⟩ := f12.ks [(2, _), (3, _), (6, _)] ⟨e2, e3, e6, trivial⟩
 have e87 : get a12 87 = (.bool (decide ((m : Int) < (t.kids.length : Int)))) := f12.v 4 rfl
 replace r0 := f12.ib 0 rfl
 replace r1 := f12.ib 1 rfl
 clear f12
 show Code.wp _ _ _ a12 w12
 refine wp_cond_split (t := decide ((m : Int) < (t.kids.length : Int))) e87 (fun hc4 => ?_) (fun hc4 => ?_)
 · try simp only [decide_eq_true_eq] at hc4
   refine wp_skip ?_
   show Code.wp _ _ _ a12 w12
   refine wp_seq ?_
   refine wp_block ?_
   refine wp_seq ?_
   refine region_St (bf := [0, 1, 0, 7, 15, 0, 32, 0, 224, 480, 1023, 2047]) (sp := [det _ 90 _, det _ 91 _, det _ 92 _, det _ 93 _, det _ 94 _, det _ 95 _, det _ 96 _, det _ 97 _, det _ 98 _, det _ 99 _, det _ 100 _, det _ 101 _]) [ib r0, ib r1] mixed st12 (by kernel_rfl) ⟨r0, r1, trivial⟩
    ⟨Ob.d fun c => r_fieldAddr rfl Try.underlying25 rfl rfl Try.sizeOf23 ((c.p e2).trans r0.ptr),
    Ob.d fun c => r_load1 rfl Try.isAgg23 (c.n 0 rfl) ((c.ib 0 rfl).cell (j := 7) rfl),
    Ob.d fun c => r_move rfl (c.p e6),
    Ob.d fun c => r_indexAddr rfl Try.underlying23 Try.sizeOf25 (c.n 1 rfl) (hT.at st12.ext).tl.sl.sl (c.n 2 rfl) (by omega) (by omega),
    Ob.d fun c => r_loadN (vs := [(.int .i64 ((nth t.kids ((m : Int))).k)), (.string ((nth t.kids ((m : Int))).ch)), (.bool ((nth t.kids ((m : Int))).ng)), (nth t.kids ((m : Int))).rv.v, (.int .i64 ((nth t.kids ((m : Int))).mn)), (.int .i64 ((nth t.kids ((m : Int))).mx)), (.bool ((nth t.kids ((m : Int))).lz)), (nth t.kids ((m : Int))).kv.v]) rfl Try.isAgg25 Try.sizeOf25 (c.n 3 rfl) rfl (fun _ _ hj => ((hT.at (st12.ext.trans c.J.ext)).tl.sl).elem (nth_some (i := (m : Int)) (by omega) (by omega)) hj),
    Ob.d fun c => r_fieldAddr rfl Try.underlying25 rfl rfl Try.sizeOf23 ((c.p e3).trans r1.ptr),
    Ob.d fun c => r_load1 rfl Try.isAgg23 (c.n 5 rfl) ((c.ib 1 rfl).cell (j := 7) rfl),
    Ob.d fun c => r_move rfl (c.p e6),
    Ob.d fun c => r_indexAddr rfl Try.underlying23 Try.sizeOf25 (c.n 6 rfl) (hB.at st12.ext).tl.sl.sl (c.n 7 rfl) (by omega) (by omega),
    Ob.d fun c => r_loadN (vs := [(.int .i64 ((nth b.kids ((m : Int))).k)), (.string ((nth b.kids ((m : Int))).ch)), (.bool ((nth b.kids ((m : Int))).ng)), (nth b.kids ((m : Int))).rv.v, (.int .i64 ((nth b.kids ((m : Int))).mn)), (.int .i64 ((nth b.kids ((m : Int))).mx)), (.bool ((nth b.kids ((m : Int))).lz)), (nth b.kids ((m : Int))).kv.v]) rfl Try.isAgg25 Try.sizeOf25 (c.n 8 rfl) rfl (fun _ _ hj => ((hB.at (st12.ext.trans c.J.ext)).tl.sl).elem (nth_some (i := (m : Int)) (by omega) (by omega)) hj),
    Ob.c fun c => ⟨_, _, (e_call2 rfl rfl Try.call12 (c.n 4 rfl) (c.n 9 rfl)), ih _ (nth_memI (by omega) (by omega)) (nth b.kids ((m : Int))) _ ((hT.at (st12.ext.trans c.J.ext)).tl.el (by omega) (by omega)) ((hB.at (st12.ext.trans c.J.ext)).tl.el (by omega) (by omega))⟩,
    Ob.d fun c => r_not rfl (c.n 10 rfl), trivial⟩ ?_
   intro a13 w13 τ13 st13 f13
   obtain ⟨e2, e3, e6, e87, -⟩ := f13.ks [(2, _), (3, _), (6, _), (87, _)] ⟨e2, e3, e6, e87, trivial⟩
   have e101 : get a13 101 = (.bool (!(sameF (nth t.kids ((m : Int))) (nth b.kids ((m : Int)))))) := f13.v 11 rfl
   replace r0 := f13.ib 0 rfl
   replace r1 := f13.ib 1 rfl
   clear f13
   show Code.wp _ _ _ a13 w13
   refine wp_cond_split (t := !(sameF (nth t.kids ((m : Int))) (nth b.kids ((m : Int))))) e101 (fun hc5 => ?_) (fun hc5 => ?_)
   · have hd5 := hc5; try simp only [Bool.not_eq_true', Bool.not_eq_false'] at hd5
     refine wp_seq ?_
     refine region_St (bf := [0]) (sp := [det _ 4 _]) [ib r0, ib r1] mixed st13 (by kernel_rfl) ⟨r0, r1, trivial⟩
      ⟨Ob.d fun c => r_assign rfl rfl, trivial⟩ ?_
     intro a14 w14 τ14 st14 f14
     obtain ⟨e2, e3, e6, e87, e101, -⟩ := f14.ks [(2, _), (3, _), (6, _), (87, _), (101, _)] ⟨e2, e3, e6, e87, e101, trivial⟩
     have e4 : get a14 4 = (.bool (false)) := f14.v 0 rfl
     replace r0 := f14.ib 0 rfl
     replace r1 := f14.ib 1 rfl
     clear f14
     show Code.wp _ _ _ a14 w14
     refine wp_ret ?_
     repeat (first | with_reducible refine then_ret ?_ | with_reducible refine block_ret ?_)
     refine ret1 (fn := Try.f12) rfl st14.defers e4 ?_
     exact ⟨congrArg _ (congrArg _ (by first | exact (same_ne (by assumption)).symm | exact (same_row (k := k) (by assumption)).symm | exact (same_kid (samesF_no (k := m) (by omega) (by omega) (by assumption))).symm)), st14.ext0⟩
   have hd5 := hc5; try simp only [Bool.not_eq_true', Bool.not_eq_false'] at hd5
   refine wp_skip ?_
   show _
   show Code.wp _ _ _ a13 w13
   refine region_St (bf := [0, 1, 3]) (sp := [det _ 88 _, det _ 89 _, det _ 6 _]) [ib r0, ib r1] mixed st13 (by kernel_rfl) ⟨r0, r1, trivial⟩
    ⟨Ob.d fun c => r_move rfl (c.p e6),
    Ob.d fun c => r_add rfl (c.n 0 rfl) rfl (by omega),
    Ob.d fun c => r_assign rfl (c.n 1 rfl), trivial⟩ ?_
   intro a15 w15 τ15 st15 f15
   obtain ⟨e2, e3, e87, e101, -⟩ := f15.ks [(2, _), (3, _), (87, _), (101, _)] ⟨e2, e3, e87, e101, trivial⟩
   have e6 : get a15 6 = (.int .i64 ((m : Int) + 1)) := f15.v 2 rfl
   replace r0 := f15.ib 0 rfl
   replace r1 := f15.ib 1 rfl
   clear f15
   refine ⟨⟨m + 1, τ15, ?_, ?_, st15, (e6.trans (int_eq (by omega))), e2, e3, r0, r1⟩, ?_⟩
   · omega
   · exact samesF_step (by omega) (by omega) q1 (by simpa using (by assumption))
   · simp only [m6, e6, intOf]; omega
 try simp only [decide_eq_false_iff_not, Int.not_lt] at hc4
 refine wp_exit ?_
 repeat (with_reducible refine then_exit ?_)
 refine exit_here ?_
 show Code.wp _ _ _ a12 w12
 refine wp_seq ?_
 refine region_St (bf := [0]) (sp := [det _ 4 _]) [ib r0, ib r1] mixed st12 (by kernel_rfl) ⟨r0, r1, trivial⟩
  ⟨Ob.d fun c => r_assign rfl rfl, trivial⟩ ?_
 intro a16 w16 τ16 st16 f16
 have e4 : get a16 4 = (.bool (true)) := f16.v 0 rfl
 clear f16
 show Code.wp _ _ _ a16 w16
 refine wp_ret ?_
 repeat (first | with_reducible refine then_ret ?_ | with_reducible refine block_ret ?_)
 refine ret1 (fn := Try.f12) rfl st16.defers e4 ?_
 exact ⟨congrArg _ (congrArg _ (by exact (same_all (k := k) (m := m) (by assumption) (by assumption) (by omega) (by assumption) (by omega)).symm)), st16.ext0⟩

theorem refSame_c (t : Tr) : ∀ (b : Tr) (w : World), TrS w t → TrS w b → Calls Try.prog 12 #[t.v, b.v] w (fun e w' => e = .returned (.bool (sameF t b)) ∧ Ext none' w w') := Tr.ind (P := fun t => ∀ (b : Tr) (w : World), TrS w t → TrS w b → Calls Try.prog 12 #[t.v, b.v] w (fun e w' => e = .returned (.bool (sameF t b)) ∧ Ext none' w w')) refSame_c_step t
end B
end Go.Proofs.Ytocmchlhbniloaa
