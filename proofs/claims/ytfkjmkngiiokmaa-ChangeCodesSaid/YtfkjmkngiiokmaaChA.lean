/-
  Walks, printed by a program (gen.py): ChA.
-/
import Derived.Test.YtfkjmkngiiokmaaSpD
import Derived.Test.YtfkjmkngiiokmaaEdD
import Derived.Test.YtfkjmkngiiokmaaChgW
import Derived.Test.YtfkjmkngiiokmaaBase9
set_option linter.unusedSimpArgs false
set_option linter.unusedVariables false
namespace Go.Proofs.Ytfkjmkngiiokmaa
namespace B
open Go.RowKit
open Srt
def editB (p q : Ed) : Bool := decide (p = q)
def editV (p : Ed) : Value := .agg #[.int .i64 p.1, .int .i64 p.2.1, .string p.2.2]
theorem editB_eq (p q : Ed) : editB p q = ((decide (p.1 = q.1) && decide (p.2.1 = q.2.1)) && eqT p.2.2 q.2.2) := by
  rw [Bool.eq_iff_iff]; simp [editB, Prod.ext_iff, eqT_iff, and_assoc]
theorem edit_run (p q : Ed) (w : World) : (Op.equal 45 (editV p) (editV q)).run Try.prog w = .ok (editB p q) w := by
  rw [editB_eq]
  have h := run_equalIn_struct (P := Try.prog) w 9999 45 #[.int .i64 p.1, .int .i64 p.2.1, .string p.2.2] #[.int .i64 q.1, .int .i64 q.2.1, .string q.2.2] rfl Try.stoodInHeld45
  have h2 := run_equalIn_struct (P := Try.prog) w 9998 43 #[.int .i64 p.1, .int .i64 p.2.1] #[.int .i64 q.1, .int .i64 q.2.1] rfl Try.stoodInHeld43
  simp only [Op.equal, Op.maxDepth, editV, h]
  simp [Program.fieldsOf, Op.eqFields, part, go_sem, h2, eqT]
  by_cases h1 : p.1 = q.1 <;> by_cases h3 : p.2.1 = q.2.1 <;> by_cases h4 : p.2.2.toList = q.2.2.toList <;> simp [h1, h3, h4]
theorem edit_eq {a : Act} {o : Oper} {w : World} {x y : Operand} {t' : TypeId} {p q : Ed} (ho : o.op = .binOp .eql 45 x y t') (hx : a.eval x = editV p) (hy : a.eval y = editV q) : Runs Try.prog a o w (.bool (editB p q)) := by
  have h := edit_run p q w
  simp only [editV] at h hx hy
  simp [Runs, execOp, ho, hx, hy, eqGuard, binOp, h]
theorem edit_ne {a : Act} {o : Oper} {w : World} {x y : Operand} {t' : TypeId} {p q : Ed} (ho : o.op = .binOp .neq 45 x y t') (hx : a.eval x = editV p) (hy : a.eval y = editV q) : Runs Try.prog a o w (.bool (!editB p q)) := by
  have h := edit_run p q w
  simp only [editV] at h hx hy
  simp [Runs, execOp, ho, hx, hy, eqGuard, binOp, h]
def lessE (x y : Ed) : Bool := lessB (sp x) (sp y)
theorem lessE_eq : lessE = ltE := by
  funext x y
  rw [Bool.eq_iff_iff, ltE_iff]
  show (decide (x.1 < y.1) || (decide (x.1 = y.1) && decide (x.2.1 < y.2.1))) = true ↔ _
  simp
set_option maxRecDepth 100000 in
theorem spanClone_c (v : Value) (xs : List (Int × Int)) (w : World) (hS : SlT SpanE w v xs) (hbig : xs.length ≤ 1000000000000) : Calls Try.prog 45 #[v] w (fun e w' => ∃ v', e = .returned v' ∧ Ext none' w w' ∧ NewT SpanE 43 w w' v' (xs)) := by
 refine enter (n := 8) Try.func45 rfl rfl (Nat.le_of_ble_eq_true rfl) ?_
 intro a0 τ0 ha st0
 have e0 : get a0 0 = v := ha 0 _ rfl
 clear ha
 have hle := hS.le
 refine wp_seq ?_
 refine region_St (bf := [0]) (sp := [det _ 2 _]) [] mixed st0 (by kernel_rfl) trivial
  ⟨Ob.d fun c => r_assign rfl rfl, trivial⟩ ?_
 intro a1 w1 τ1 st1 f1
 obtain ⟨e0, -⟩ := f1.ks [(0, _)] ⟨e0, trivial⟩
 have e2 : get a1 2 = (.slice none 0 0) := f1.v 0 rfl
 clear f1
 show Code.wp _ _ _ a1 w1
 refine wp_seq ?_
 refine wp_seq ?_
 refine region_St (bf := [0, 1]) (sp := [det _ 3 _, det _ 4 _]) [] mixed st1 (by kernel_rfl) trivial
  ⟨Ob.d fun c => r_move rfl (c.p e0),
  Ob.d fun c => r_isNil rfl Try.underlying53 (c.n 0 rfl) hS.sl, trivial⟩ ?_
 intro a2 w2 τ2 st2 f2
 obtain ⟨e0, e2, -⟩ := f2.ks [(0, _), (2, _)] ⟨e0, e2, trivial⟩
 have e4 : get a2 4 = (.bool (isNil v)) := f2.v 1 rfl
 clear f2
 show Code.wp _ _ _ a2 w2
 refine wp_cond_split (t := isNil v) e4 (fun hc1 => ?_) (fun hc1 => ?_)
 · skip
   refine wp_seq ?_
   refine region_St (bf := [0]) (sp := [det _ 2 _]) [] mixed st2 (by kernel_rfl) trivial
    ⟨Ob.d fun c => r_assign rfl rfl, trivial⟩ ?_
   intro a3 w3 τ3 st3 f3
   obtain ⟨e0, -⟩ := f3.ks [(0, _)] ⟨e0, trivial⟩
   have e2 : get a3 2 = (.slice none 0 0) := f3.v 0 rfl
   clear f3
   show Code.wp _ _ _ a3 w3
   refine wp_ret ?_
   repeat (first | with_reducible refine then_ret ?_ | with_reducible refine block_ret ?_)
   refine ret1 (fn := Try.f45) rfl st3.defers e2 ?_
   obtain rfl := hS.isNil (by assumption)
   exact ⟨_, rfl, st3.ext0, OwnT.nil _ _ _, fun g_ h_ => by simp [Value.ownBlock] at h_⟩
 skip
 refine wp_skip ?_
 show Code.wp _ _ _ a2 w2
 refine wp_seq ?_
 refine region_St (bf := [0, 0, 3, 7]) (sp := [own SpanE 43 _ 0 5 ([]), det _ 6 _, own _ _ _ 0 7 _, own _ _ _ 0 2 _]) [] mixed st2 (by kernel_rfl) trivial
  ⟨Ob.buildEmpty rfl rfl rfl rfl Try.underlying53 Try.sizeOf43,
  Ob.d fun c => r_move rfl (c.p e0),
  Ob.append (t0 := 5) rfl rfl rfl rfl Try.underlying53 (i := Try.t43) rfl rfl rfl rfl (by simp only [maxLen]; (try simp); omega) (by show _ * 16 ≤ _; (try simp); omega) (fun _ _ _ _ c => ⟨c.ro 0 rfl, rfl, ⟨_, (c.n 1 rfl), (hS.at (st2.ext.trans c.J.ext))⟩⟩),
  Ob.moveT (t0 := 7) rfl rfl rfl rfl rfl (.inr rfl) (fun _ _ _ _ c => ⟨c.ro 2 rfl, rfl⟩), trivial⟩ ?_
 intro a4 w4 τ4 st4 f4
 obtain ⟨b4x2, e2⟩ : ∃ b, get a4 2 = b := ⟨_, rfl⟩
 have r0 : ownR SpanE 43 (([]) ++ xs) (τ4 0) b4x2 w4 := f4.ro 3 e2 rfl
 clear f4
 show Code.wp _ _ _ a4 w4
 refine wp_ret ?_
 repeat (first | with_reducible refine then_ret ?_ | with_reducible refine block_ret ?_)
 refine ret1 (fn := Try.f45) rfl st4.defers e2 ?_
 replace r0 := r0.cast (show xs = _ from by rfl)
 exact ⟨_, rfl, st4.ext0, r0.1, fun g_ h_ => (st4.bnd _ g_ (r0.2 g_ h_)).1⟩

set_option maxRecDepth 100000 in
theorem editClone_c (v : Value) (xs : List (Int × Int × ByteArray)) (w : World) (hS : SlT EditE w v xs) (hbig : xs.length ≤ 1000000000000) : Calls Try.prog 37 #[v] w (fun e w' => ∃ v', e = .returned v' ∧ Ext none' w w' ∧ NewT EditE 45 w w' v' (xs)) := by
 refine enter (n := 8) Try.func37 rfl rfl (Nat.le_of_ble_eq_true rfl) ?_
 intro a0 τ0 ha st0
 have e0 : get a0 0 = v := ha 0 _ rfl
 clear ha
 have hle := hS.le
 refine wp_seq ?_
 refine region_St (bf := [0]) (sp := [det _ 2 _]) [] mixed st0 (by kernel_rfl) trivial
  ⟨Ob.d fun c => r_assign rfl rfl, trivial⟩ ?_
 intro a1 w1 τ1 st1 f1
 obtain ⟨e0, -⟩ := f1.ks [(0, _)] ⟨e0, trivial⟩
 have e2 : get a1 2 = (.slice none 0 0) := f1.v 0 rfl
 clear f1
 show Code.wp _ _ _ a1 w1
 refine wp_seq ?_
 refine wp_seq ?_
 refine region_St (bf := [0, 1]) (sp := [det _ 3 _, det _ 4 _]) [] mixed st1 (by kernel_rfl) trivial
  ⟨Ob.d fun c => r_move rfl (c.p e0),
  Ob.d fun c => r_isNil rfl Try.underlying22 (c.n 0 rfl) hS.sl, trivial⟩ ?_
 intro a2 w2 τ2 st2 f2
 obtain ⟨e0, e2, -⟩ := f2.ks [(0, _), (2, _)] ⟨e0, e2, trivial⟩
 have e4 : get a2 4 = (.bool (isNil v)) := f2.v 1 rfl
 clear f2
 show Code.wp _ _ _ a2 w2
 refine wp_cond_split (t := isNil v) e4 (fun hc1 => ?_) (fun hc1 => ?_)
 · skip
   refine wp_seq ?_
   refine region_St (bf := [0]) (sp := [det _ 2 _]) [] mixed st2 (by kernel_rfl) trivial
    ⟨Ob.d fun c => r_assign rfl rfl, trivial⟩ ?_
   intro a3 w3 τ3 st3 f3
   obtain ⟨e0, -⟩ := f3.ks [(0, _)] ⟨e0, trivial⟩
   have e2 : get a3 2 = (.slice none 0 0) := f3.v 0 rfl
   clear f3
   show Code.wp _ _ _ a3 w3
   refine wp_ret ?_
   repeat (first | with_reducible refine then_ret ?_ | with_reducible refine block_ret ?_)
   refine ret1 (fn := Try.f37) rfl st3.defers e2 ?_
   obtain rfl := hS.isNil (by assumption)
   exact ⟨_, rfl, st3.ext0, OwnT.nil _ _ _, fun g_ h_ => by simp [Value.ownBlock] at h_⟩
 skip
 refine wp_skip ?_
 show Code.wp _ _ _ a2 w2
 refine wp_seq ?_
 refine region_St (bf := [0, 0, 3, 7]) (sp := [own EditE 45 _ 0 5 ([]), det _ 6 _, own _ _ _ 0 7 _, own _ _ _ 0 2 _]) [] mixed st2 (by kernel_rfl) trivial
  ⟨Ob.buildEmpty rfl rfl rfl rfl Try.underlying22 Try.sizeOf45,
  Ob.d fun c => r_move rfl (c.p e0),
  Ob.append (t0 := 5) rfl rfl rfl rfl Try.underlying22 (i := Try.t45) rfl rfl rfl rfl (by simp only [maxLen]; (try simp); omega) (by show _ * 32 ≤ _; (try simp); omega) (fun _ _ _ _ c => ⟨c.ro 0 rfl, rfl, ⟨_, (c.n 1 rfl), (hS.at (st2.ext.trans c.J.ext))⟩⟩),
  Ob.moveT (t0 := 7) rfl rfl rfl rfl rfl (.inr rfl) (fun _ _ _ _ c => ⟨c.ro 2 rfl, rfl⟩), trivial⟩ ?_
 intro a4 w4 τ4 st4 f4
 obtain ⟨b4x2, e2⟩ : ∃ b, get a4 2 = b := ⟨_, rfl⟩
 have r0 : ownR EditE 45 (([]) ++ xs) (τ4 0) b4x2 w4 := f4.ro 3 e2 rfl
 clear f4
 show Code.wp _ _ _ a4 w4
 refine wp_ret ?_
 repeat (first | with_reducible refine then_ret ?_ | with_reducible refine block_ret ?_)
 refine ret1 (fn := Try.f37) rfl st4.defers e2 ?_
 replace r0 := r0.cast (show xs = _ from by rfl)
 exact ⟨_, rfl, st4.ext0, r0.1, fun g_ h_ => (st4.bnd _ g_ (r0.2 g_ h_)).1⟩

set_option maxRecDepth 100000 in
theorem spansE_c (v : Value) (xs : List (Int × Int × ByteArray)) (w : World) (hS : SlT EditE w v xs) (hbig : xs.length ≤ 1000000000) : Calls Try.prog 34 #[v] w (fun e w' => ∃ v', e = .returned v' ∧ Ext none' w w' ∧ NewT SpanE 43 w w' v' (List.map sp xs)) := by
 refine enter (n := 19) Try.func34 rfl rfl (Nat.le_of_ble_eq_true rfl) ?_
 intro a0 τ0 ha st0
 have e0 : get a0 0 = v := ha 0 _ rfl
 clear ha
 have hle := hS.le
 refine wp_seq ?_
 refine region_St (bf := [0]) (sp := [det _ 2 _]) [] mixed st0 (by kernel_rfl) trivial
  ⟨Ob.d fun c => r_assign rfl rfl, trivial⟩ ?_
 intro a1 w1 τ1 st1 f1
 obtain ⟨e0, -⟩ := f1.ks [(0, _)] ⟨e0, trivial⟩
 have e2 : get a1 2 = (.slice none 0 0) := f1.v 0 rfl
 clear f1
 show Code.wp _ _ _ a1 w1
 refine wp_seq ?_
 refine region_St (bf := [0]) (sp := [det _ 3 _]) [] mixed st1 (by kernel_rfl) trivial
  ⟨Ob.d fun c => r_assign rfl rfl, trivial⟩ ?_
 intro a2 w2 τ2 st2 f2
 obtain ⟨e0, e2, -⟩ := f2.ks [(0, _), (2, _)] ⟨e0, e2, trivial⟩
 have e3 : get a2 3 = (.slice none 0 0) := f2.v 0 rfl
 clear f2
 show Code.wp _ _ _ a2 w2
 refine wp_seq ?_
 refine wp_seq ?_
 refine region_St (bf := [0, 1, 0]) (sp := [det _ 6 _, det _ 7 _, det _ 8 _]) [] mixed st2 (by kernel_rfl) trivial
  ⟨Ob.d fun c => r_move rfl (c.p e0),
  Ob.d fun c => r_len rfl Try.underlying22 (c.n 0 rfl) hS.sl,
  Ob.d fun c => r_move rfl rfl, trivial⟩ ?_
 intro a3 w3 τ3 st3 f3
 obtain ⟨e2, e3, -⟩ := f3.ks [(2, _), (3, _)] ⟨e2, e3, trivial⟩
 have e6 : get a3 6 = v := f3.v 0 rfl
 have e7 : get a3 7 = (.int .i64 ((xs.length : Int))) := f3.v 1 rfl
 have e8 : get a3 8 = (.int .i64 (0)) := f3.v 2 rfl
 clear f3
 show Code.wp _ _ _ a3 w3
 refine wp_block ?_
 refine wp_loop (fun a_ w_ => ∃ (k : Nat) (u : Value) (τ : Nat → Foot), (k ≤ xs.length) ∧
      St (Nw w) w 19 a_ w_ τ ∧
      get a_ 3 = u ∧
      get a_ 8 = (.int .i64 ((k : Int))) ∧
      get a_ 2 = (.slice none 0 0) ∧
      get a_ 6 = v ∧
      get a_ 7 = (.int .i64 ((xs.length : Int))) ∧
      ownR SpanE 43 ((xs.take k).map sp) (τ 0) u w_) (fun a_ _ => xs.length - (intOf (get a_ 8)).toNat) ?_ ?_
 · refine ⟨0, (.slice none 0 0), τ3, ?_, st3, e3, (e8.trans (int_eq (by omega))), e2, e6, e7, ?_⟩
   · omega
   · exact ownR.nil _ _ _ _
 intro a4 w4 hI
 obtain ⟨k, u, τ4, q0, st4, e3, e8, e2, e6, e7, r0⟩ := hI
 have hml := @List.length_map _ _ (xs.take k) sp
 have htl := List.length_take_le k xs
 have m8 := e8
 refine wp_seq ?_
 refine region_St (bf := [0]) (sp := [det _ 9 _]) [io r0] mixed st4 (by kernel_rfl) ⟨r0, trivial⟩
  ⟨Ob.d fun c => r_lss rfl (c.p e8) (c.p e7), trivial⟩ ?_
 intro a5 w5 τ5 st5 f5
 obtain ⟨e2, e3, e6, e7, e8, -⟩ := f5.ks [(2, _), (3, _), (6, _), (7, _), (8, _)] ⟨e2, e3, e6, e7, e8, trivial⟩
 have e9 : get a5 9 = (.bool (decide ((k : Int) < (xs.length : Int)))) := f5.v 0 rfl
 replace r0 := f5.io 0 rfl
 clear f5
 show Code.wp _ _ _ a5 w5
 refine wp_seq ?_
 refine wp_cond_split (t := decide ((k : Int) < (xs.length : Int))) e9 (fun hc1 => ?_) (fun hc1 => ?_)
 · try simp only [decide_eq_true_eq] at hc1
   refine wp_skip ?_
   show Code.wp _ _ _ a5 w5
   refine wp_seq ?_
   refine wp_block ?_
   refine wp_seq ?_
   refine region_St (bf := [0, 1, 0, 7]) (sp := [det _ 10 _, det _ 11 _, box _ _ 1 5 [(.int .i64 (0)), (.int .i64 (0)), (.string ((⟨#[]⟩ : ByteArray)))], box _ _ 1 5 [(.int .i64 ((nth xs ((k : Int))).1)), (.int .i64 ((nth xs ((k : Int))).2.1)), (.string ((nth xs ((k : Int))).2.2))]]) [io r0] mixed st5 (by kernel_rfl) ⟨r0, trivial⟩
    ⟨Ob.d fun c => r_indexAddr rfl Try.underlying22 Try.sizeOf45 (c.p e6) hS.sl (c.p e8) (by omega) (by omega),
    Ob.d fun c => r_loadN (vs := [(.int .i64 ((nth xs ((k : Int))).1)), (.int .i64 ((nth xs ((k : Int))).2.1)), (.string ((nth xs ((k : Int))).2.2))]) rfl Try.isAgg45 Try.sizeOf45 (c.n 0 rfl) rfl (fun _ _ hj => ((hS.at (st5.ext.trans c.J.ext))).elem (nth_some (i := (k : Int)) (by omega) (by omega)) hj),
    Ob.alloc rfl rfl rfl rfl Try.zeroValue45 rfl,
    Ob.storeBox (off := 0) (v := (.agg #[(.int .i64 ((nth xs ((k : Int))).1)), (.int .i64 ((nth xs ((k : Int))).2.1)), (.string ((nth xs ((k : Int))).2.2))])) rfl rfl rfl rfl Try.sizeOf45 (Nat.le_of_ble_eq_true rfl) (by simp [Value.cells, Value.oneCell']) rfl (fun _ _ _ _ c => ⟨c.rb 2 rfl, (c.rb 2 rfl).ptr, (c.n 1 rfl)⟩), trivial⟩ ?_
   intro a6 w6 τ6 st6 f6
   obtain ⟨b6x5, e5⟩ : ∃ b, get a6 5 = b := ⟨_, rfl⟩
   obtain ⟨e2, e3, e6, e7, e8, e9, -⟩ := f6.ks [(2, _), (3, _), (6, _), (7, _), (8, _), (9, _)] ⟨e2, e3, e6, e7, e8, e9, trivial⟩
   replace r0 := f6.io 0 rfl
   have r1 : boxR 45 [(.int .i64 ((nth xs ((k : Int))).1)), (.int .i64 ((nth xs ((k : Int))).2.1)), (.string ((nth xs ((k : Int))).2.2))] (τ6 1) b6x5 w6 := f6.rb 3 e5 rfl
   clear f6
   show Code.wp _ _ _ a6 w6
   refine region_St (bf := [0, 0, 2, 6, 15, 31]) (sp := [det _ 12 _, det _ 13 _, det _ 14 _, own SpanE 43 _ 2 15 ([((nth xs ((k : Int))).1, (nth xs ((k : Int))).2.1)]), own _ _ _ 0 16 _, own _ _ _ 0 3 _]) [io r0, ib r1] mixed st6 (by kernel_rfl) ⟨r0, r1, trivial⟩
    ⟨Ob.d fun c => r_move rfl (c.p e3),
    Ob.d fun c => r_fieldAddr rfl Try.underlying45 rfl rfl Try.sizeOf43 ((c.p e5).trans r1.ptr),
    Ob.d fun c => r_loadN (vs := [(.int .i64 ((nth xs ((k : Int))).1)), (.int .i64 ((nth xs ((k : Int))).2.1))]) rfl Try.isAgg43 Try.sizeOf43 (c.n 1 rfl) rfl (fun j_ _ hj => by rw [add_add]; exact (c.ib 1 rfl).cell (j := 0 + j_) (part_cells (l := [(.int .i64 ((nth xs ((k : Int))).1)), (.int .i64 ((nth xs ((k : Int))).2.1)), (.string ((nth xs ((k : Int))).2.2))]) (o := 0) (n := 2) rfl hj)),
    Ob.buildSlice (cells := #[(.int .i64 ((nth xs ((k : Int))).1)), (.int .i64 ((nth xs ((k : Int))).2.1))]) rfl rfl rfl rfl Try.underlying53 Try.sizeOf43 Try.zeroValue43 rfl (by decide) (by decide) (fun _ _ _ _ c => fill1 (c.n 2 rfl) (by kernel_rfl)) rfl,
    Ob.append (t0 := 3) rfl rfl rfl rfl Try.underlying53 (i := Try.t43) rfl rfl rfl rfl (by simp only [maxLen]; (try simp); omega) (by show _ * 16 ≤ _; (try simp); omega) (fun _ _ _ _ c => ⟨c.ip 0 rfl e3, c.sm (c.n 0 rfl) e3, ⟨_, rfl, (c.ro 3 rfl).1.sl⟩⟩),
    Ob.moveT (t0 := 16) rfl rfl rfl rfl rfl (.inr rfl) (fun _ _ _ _ c => ⟨c.ro 4 rfl, rfl⟩), trivial⟩ ?_
   intro a7 w7 τ7 st7 f7
   obtain ⟨b7x15, e15⟩ : ∃ b, get a7 15 = b := ⟨_, rfl⟩
   obtain ⟨b7x3, e3⟩ : ∃ b, get a7 3 = b := ⟨_, rfl⟩
   obtain ⟨e2, e5, e6, e7, e8, e9, -⟩ := f7.ks [(2, _), (5, _), (6, _), (7, _), (8, _), (9, _)] ⟨e2, e5, e6, e7, e8, e9, trivial⟩
   replace r0 : ownR SpanE 43 (((xs.take k).map sp) ++ ([((nth xs ((k : Int))).1, (nth xs ((k : Int))).2.1)])) (τ7 0) b7x3 w7 := f7.ro 5 e3 rfl
   replace r1 := f7.ib 1 rfl
   have r2 : ownR SpanE 43 ([((nth xs ((k : Int))).1, (nth xs ((k : Int))).2.1)]) (τ7 2) b7x15 w7 := f7.ro 3 e15 rfl
   clear f7
   show _
   show Code.wp _ _ _ a7 w7
   refine region_St (bf := [0, 1]) (sp := [det _ 17 _, det _ 8 _]) [io r0, ib r1, io r2] mixed st7 (by kernel_rfl) ⟨r0, r1, r2, trivial⟩
    ⟨Ob.d fun c => r_add rfl (c.p e8) rfl (by omega),
    Ob.d fun c => r_move rfl (c.n 0 rfl), trivial⟩ ?_
   intro a8 w8 τ8 st8 f8
   obtain ⟨e2, e3, e5, e6, e7, e9, -⟩ := f8.ks [(2, _), (3, _), (5, _), (6, _), (7, _), (9, _)] ⟨e2, e3, e5, e6, e7, e9, trivial⟩
   have e8 : get a8 8 = (.int .i64 ((k : Int) + 1)) := f8.v 1 rfl
   replace r0 := f8.io 0 rfl
   replace r1 := f8.ib 1 rfl
   replace r2 := f8.io 2 rfl
   clear f8
   refine ⟨⟨k + 1, b7x3, τ8, ?_, st8, e3, (e8.trans (int_eq (by omega))), e2, e6, e7, ?_⟩, ?_⟩
   · omega
   · exact r0.cast (by exact map_succ (by omega))
   · simp only [m8, e8, intOf]; omega
 try simp only [decide_eq_false_iff_not, Int.not_lt] at hc1
 refine wp_exit ?_
 repeat (with_reducible refine then_exit ?_)
 refine exit_here ?_
 show Code.wp _ _ _ a5 w5
 refine wp_seq ?_
 refine region_St (bf := [0, 1]) (sp := [det _ 18 _, det _ 2 _]) [io r0] mixed st5 (by kernel_rfl) ⟨r0, trivial⟩
  ⟨Ob.d fun c => r_move rfl (c.p e3),
  Ob.d fun c => r_assign rfl (c.n 0 rfl), trivial⟩ ?_
 intro a9 w9 τ9 st9 f9
 have e2 : get a9 2 = u := f9.v 1 rfl
 replace r0 := f9.io 0 rfl
 clear f9
 show Code.wp _ _ _ a9 w9
 refine wp_ret ?_
 repeat (first | with_reducible refine then_ret ?_ | with_reducible refine block_ret ?_)
 refine ret1 (fn := Try.f34) rfl st9.defers e2 ?_
 replace r0 := r0.cast (show List.map sp xs = _ from by rw [List.take_of_length_le (by omega)])
 exact ⟨_, rfl, st9.ext0, r0.1, fun g_ h_ => (st9.bnd _ g_ (r0.2 g_ h_)).1⟩

set_option maxRecDepth 100000 in
theorem refSpansE_c (v : Value) (xs : List (Int × Int × ByteArray)) (w : World) (hS : SlT EditE w v xs) (hbig : xs.length ≤ 1000000000) : Calls Try.prog 49 #[v] w (fun e w' => ∃ v', e = .returned v' ∧ Ext none' w w' ∧ NewT SpanE 43 w w' v' (List.map sp xs)) := by
 refine enter (n := 20) Try.func49 rfl rfl (Nat.le_of_ble_eq_true rfl) ?_
 intro a0 τ0 ha st0
 have e0 : get a0 0 = v := ha 0 _ rfl
 clear ha
 have hle := hS.le
 refine wp_seq ?_
 refine region_St (bf := [0]) (sp := [det _ 2 _]) [] mixed st0 (by kernel_rfl) trivial
  ⟨Ob.d fun c => r_assign rfl rfl, trivial⟩ ?_
 intro a1 w1 τ1 st1 f1
 obtain ⟨e0, -⟩ := f1.ks [(0, _)] ⟨e0, trivial⟩
 have e2 : get a1 2 = (.slice none 0 0) := f1.v 0 rfl
 clear f1
 show Code.wp _ _ _ a1 w1
 refine wp_seq ?_
 refine region_St (bf := [0]) (sp := [det _ 3 _]) [] mixed st1 (by kernel_rfl) trivial
  ⟨Ob.d fun c => r_assign rfl rfl, trivial⟩ ?_
 intro a2 w2 τ2 st2 f2
 obtain ⟨e0, e2, -⟩ := f2.ks [(0, _), (2, _)] ⟨e0, e2, trivial⟩
 have e3 : get a2 3 = (.slice none 0 0) := f2.v 0 rfl
 clear f2
 show Code.wp _ _ _ a2 w2
 refine wp_seq ?_
 refine wp_seq ?_
 refine region_St (bf := [0]) (sp := [det _ 4 _]) [] mixed st2 (by kernel_rfl) trivial
  ⟨Ob.d fun c => r_assign rfl rfl, trivial⟩ ?_
 intro a3 w3 τ3 st3 f3
 obtain ⟨e0, e2, e3, -⟩ := f3.ks [(0, _), (2, _), (3, _)] ⟨e0, e2, e3, trivial⟩
 have e4 : get a3 4 = (.int .i64 (0)) := f3.v 0 rfl
 clear f3
 show Code.wp _ _ _ a3 w3
 refine wp_block ?_
 refine wp_loop (fun a_ w_ => ∃ (k : Nat) (u : Value) (τ : Nat → Foot), (k ≤ xs.length) ∧
      St (Nw w) w 20 a_ w_ τ ∧
      get a_ 3 = u ∧
      get a_ 4 = (.int .i64 ((k : Int))) ∧
      get a_ 0 = v ∧
      get a_ 2 = (.slice none 0 0) ∧
      ownR SpanE 43 ((xs.take k).map sp) (τ 0) u w_) (fun a_ _ => xs.length - (intOf (get a_ 4)).toNat) ?_ ?_
 · refine ⟨0, (.slice none 0 0), τ3, ?_, st3, e3, (e4.trans (int_eq (by omega))), e0, e2, ?_⟩
   · omega
   · exact ownR.nil _ _ _ _
 intro a4 w4 hI
 obtain ⟨k, u, τ4, q0, st4, e3, e4, e0, e2, r0⟩ := hI
 have hml := @List.length_map _ _ (xs.take k) sp
 have htl := List.length_take_le k xs
 have m4 := e4
 refine wp_seq ?_
 refine wp_seq ?_
 refine region_St (bf := [0, 0, 2, 7]) (sp := [det _ 5 _, det _ 6 _, det _ 7 _, det _ 8 _]) [io r0] mixed st4 (by kernel_rfl) ⟨r0, trivial⟩
  ⟨Ob.d fun c => r_move rfl (c.p e4),
  Ob.d fun c => r_move rfl (c.p e0),
  Ob.d fun c => r_len rfl Try.underlying22 (c.n 1 rfl) hS.sl,
  Ob.d fun c => r_lss rfl (c.n 0 rfl) (c.n 2 rfl), trivial⟩ ?_
 intro a5 w5 τ5 st5 f5
 obtain ⟨e0, e2, e3, e4, -⟩ := f5.ks [(0, _), (2, _), (3, _), (4, _)] ⟨e0, e2, e3, e4, trivial⟩
 have e8 : get a5 8 = (.bool (decide ((k : Int) < (xs.length : Int)))) := f5.v 3 rfl
 replace r0 := f5.io 0 rfl
 clear f5
 show Code.wp _ _ _ a5 w5
 refine wp_cond_split (t := decide ((k : Int) < (xs.length : Int))) e8 (fun hc1 => ?_) (fun hc1 => ?_)
 · try simp only [decide_eq_true_eq] at hc1
   refine wp_skip ?_
   show Code.wp _ _ _ a5 w5
   refine wp_seq ?_
   refine wp_block ?_
   refine region_St (bf := [0, 0, 0, 6, 14, 30, 62, 127, 255]) (sp := [det _ 11 _, det _ 12 _, det _ 13 _, det _ 14 _, det _ 15 _, det _ 16 _, own SpanE 43 _ 1 17 ([((nth xs ((k : Int))).1, (nth xs ((k : Int))).2.1)]), own _ _ _ 0 18 _, own _ _ _ 0 3 _]) [io r0] mixed st5 (by kernel_rfl) ⟨r0, trivial⟩
    ⟨Ob.d fun c => r_move rfl (c.p e3),
    Ob.d fun c => r_move rfl (c.p e0),
    Ob.d fun c => r_move rfl (c.p e4),
    Ob.d fun c => r_indexAddr rfl Try.underlying22 Try.sizeOf45 (c.n 1 rfl) hS.sl (c.n 2 rfl) (by omega) (by omega),
    Ob.d fun c => r_fieldAddr rfl Try.underlying45 rfl rfl Try.sizeOf43 (c.n 3 rfl),
    Ob.d fun c => r_loadN (vs := [(.int .i64 ((nth xs ((k : Int))).1)), (.int .i64 ((nth xs ((k : Int))).2.1))]) rfl Try.isAgg43 Try.sizeOf43 (c.n 4 rfl) rfl (fun j_ u_ hj => by rw [add_add, add_add]; have h_ := ((hS.at (st5.ext.trans c.J.ext))).elem (j := 0 + j_) (nth_some (i := (k : Int)) (by omega) (by omega)) (by revert hj; cases j_ with | zero => exact id | succ j_ => cases j_ with | zero => exact id | succ j_ => intro hj; simp at hj); rwa [add_add] at h_),
    Ob.buildSlice (cells := #[(.int .i64 ((nth xs ((k : Int))).1)), (.int .i64 ((nth xs ((k : Int))).2.1))]) rfl rfl rfl rfl Try.underlying53 Try.sizeOf43 Try.zeroValue43 rfl (by decide) (by decide) (fun _ _ _ _ c => fill1 (c.n 5 rfl) (by kernel_rfl)) rfl,
    Ob.append (t0 := 3) rfl rfl rfl rfl Try.underlying53 (i := Try.t43) rfl rfl rfl rfl (by simp only [maxLen]; (try simp); omega) (by show _ * 16 ≤ _; (try simp); omega) (fun _ _ _ _ c => ⟨c.ip 0 rfl e3, c.sm (c.n 0 rfl) e3, ⟨_, rfl, (c.ro 6 rfl).1.sl⟩⟩),
    Ob.moveT (t0 := 18) rfl rfl rfl rfl rfl (.inr rfl) (fun _ _ _ _ c => ⟨c.ro 7 rfl, rfl⟩), trivial⟩ ?_
   intro a6 w6 τ6 st6 f6
   obtain ⟨b6x17, e17⟩ : ∃ b, get a6 17 = b := ⟨_, rfl⟩
   obtain ⟨b6x3, e3⟩ : ∃ b, get a6 3 = b := ⟨_, rfl⟩
   obtain ⟨e0, e2, e4, e8, -⟩ := f6.ks [(0, _), (2, _), (4, _), (8, _)] ⟨e0, e2, e4, e8, trivial⟩
   replace r0 : ownR SpanE 43 (((xs.take k).map sp) ++ ([((nth xs ((k : Int))).1, (nth xs ((k : Int))).2.1)])) (τ6 0) b6x3 w6 := f6.ro 8 e3 rfl
   have r1 : ownR SpanE 43 ([((nth xs ((k : Int))).1, (nth xs ((k : Int))).2.1)]) (τ6 1) b6x17 w6 := f6.ro 6 e17 rfl
   clear f6
   show _
   show Code.wp _ _ _ a6 w6
   refine region_St (bf := [0, 1, 3]) (sp := [det _ 9 _, det _ 10 _, det _ 4 _]) [io r0, io r1] mixed st6 (by kernel_rfl) ⟨r0, r1, trivial⟩
    ⟨Ob.d fun c => r_move rfl (c.p e4),
    Ob.d fun c => r_add rfl (c.n 0 rfl) rfl (by omega),
    Ob.d fun c => r_assign rfl (c.n 1 rfl), trivial⟩ ?_
   intro a7 w7 τ7 st7 f7
   obtain ⟨e0, e2, e3, e8, -⟩ := f7.ks [(0, _), (2, _), (3, _), (8, _)] ⟨e0, e2, e3, e8, trivial⟩
   have e4 : get a7 4 = (.int .i64 ((k : Int) + 1)) := f7.v 2 rfl
   replace r0 := f7.io 0 rfl
   replace r1 := f7.io 1 rfl
   clear f7
   refine ⟨⟨k + 1, b6x3, τ7, ?_, st7, e3, (e4.trans (int_eq (by omega))), e0, e2, ?_⟩, ?_⟩
   · omega
   · exact r0.cast (by exact map_succ (by omega))
   · simp only [m4, e4, intOf]; omega
 try simp only [decide_eq_false_iff_not, Int.not_lt] at hc1
 refine wp_exit ?_
 repeat (with_reducible refine then_exit ?_)
 refine exit_here ?_
 show Code.wp _ _ _ a5 w5
 refine wp_seq ?_
 refine region_St (bf := [0, 1]) (sp := [det _ 19 _, det _ 2 _]) [io r0] mixed st5 (by kernel_rfl) ⟨r0, trivial⟩
  ⟨Ob.d fun c => r_move rfl (c.p e3),
  Ob.d fun c => r_assign rfl (c.n 0 rfl), trivial⟩ ?_
 intro a8 w8 τ8 st8 f8
 have e2 : get a8 2 = u := f8.v 1 rfl
 replace r0 := f8.io 0 rfl
 clear f8
 show Code.wp _ _ _ a8 w8
 refine wp_ret ?_
 repeat (first | with_reducible refine then_ret ?_ | with_reducible refine block_ret ?_)
 refine ret1 (fn := Try.f49) rfl st8.defers e2 ?_
 replace r0 := r0.cast (show List.map sp xs = _ from by rw [List.take_of_length_le (by omega)])
 exact ⟨_, rfl, st8.ext0, r0.1, fun g_ h_ => (st8.bnd _ g_ (r0.2 g_ h_)).1⟩

set_option maxRecDepth 100000 in
theorem apart_c (v : Value) (xs : List (Int × Int)) (w : World) (hS : SlT SpanE w v xs) (hbig : xs.length ≤ 1000000000) : Calls Try.prog 33 #[v] w (fun e w' => e = .returned (.bool (apartF (isort ltS xs))) ∧ Ext none' w w') := by
 refine enter (n := 49) Try.func33 rfl rfl (Nat.le_of_ble_eq_true rfl) ?_
 intro a0 τ0 ha st0
 have e0 : get a0 0 = v := ha 0 _ rfl
 clear ha
 have hle := hS.le
 refine wp_seq ?_
 refine region_St (bf := [0]) (sp := [det _ 2 _]) [] mixed st0 (by kernel_rfl) trivial
  ⟨Ob.d fun c => r_assign rfl rfl, trivial⟩ ?_
 intro a1 w1 τ1 st1 f1
 obtain ⟨e0, -⟩ := f1.ks [(0, _)] ⟨e0, trivial⟩
 have e2 : get a1 2 = (.bool (false)) := f1.v 0 rfl
 clear f1
 show Code.wp _ _ _ a1 w1
 refine wp_seq ?_
 refine region_St (bf := [0, 1, 3]) (sp := [det _ 6 _, own _ _ _ 1 7 _, own _ _ _ 1 3 _]) [] mixed st1 (by kernel_rfl) trivial
  ⟨Ob.d fun c => r_move rfl (c.p e0),
  Ob.callOwn rfl rfl rfl (fun _ a_ _ _ c => ⟨_, _, (e_call1 rfl rfl Try.call45 (c.n 0 rfl)), spanClone_c v xs _ (hS.at (st1.ext.trans c.J.ext)) (by omega)⟩),
  Ob.moveT (t0 := 7) rfl rfl rfl rfl rfl (.inr rfl) (fun _ _ _ _ c => ⟨c.ro 1 rfl, rfl⟩), trivial⟩ ?_
 intro a2 w2 τ2 st2 f2
 obtain ⟨b2x3, e3⟩ : ∃ b, get a2 3 = b := ⟨_, rfl⟩
 obtain ⟨e2, -⟩ := f2.ks [(2, _)] ⟨e2, trivial⟩
 have r1 : ownR SpanE 43 (xs) (τ2 1) b2x3 w2 := f2.ro 2 e3 rfl
 clear f2
 show Code.wp _ _ _ a2 w2
 refine wp_seq ?_
 refine region_St (bf := [0, 1]) (sp := [det _ 8 _, own _ _ _ 1 3 _]) [Ini.any _, io r1] mixed st2 (by kernel_rfl) ⟨trivial, r1, trivial⟩
  ⟨Ob.d fun c => r_move rfl (c.p e3),
  Ob.callIn rfl rfl rfl (by decide) (fun _ a_ _ _ c => ⟨_, _, (e_call2 rfl rfl Try.call46 (c.n 0 rfl) rfl), c.p e3, c.io 1 rfl, fun ho_ => spanSort_c b2x3 xs _ ho_ (by omega)⟩), trivial⟩ ?_
 intro a3 w3 τ3 st3 f3
 obtain ⟨e2, e3, -⟩ := f3.ks [(2, _), (3, _)] ⟨e2, e3, trivial⟩
 replace r1 : ownR SpanE 43 (isort ltS xs) (τ3 1) b2x3 w3 := f3.ro 1 e3 rfl
 clear f3
 have hil := isort_length (lt := ltS) xs
 show Code.wp _ _ _ a3 w3
 refine wp_seq ?_
 refine wp_seq ?_
 refine region_St (bf := [0, 1, 0]) (sp := [det _ 10 _, det _ 11 _, det _ 12 _]) [Ini.any _, io r1] mixed st3 (by kernel_rfl) ⟨trivial, r1, trivial⟩
  ⟨Ob.d fun c => r_move rfl (c.p e3),
  Ob.d fun c => r_len rfl Try.underlying53 (c.n 0 rfl) r1.isSl,
  Ob.d fun c => r_move rfl rfl, trivial⟩ ?_
 intro a4 w4 τ4 st4 f4
 obtain ⟨e2, e3, -⟩ := f4.ks [(2, _), (3, _)] ⟨e2, e3, trivial⟩
 have e10 : get a4 10 = b2x3 := f4.v 0 rfl
 have e11 : get a4 11 = (.int .i64 (((isort ltS xs).length : Int))) := f4.v 1 rfl
 have e12 : get a4 12 = (.int .i64 (0)) := f4.v 2 rfl
 replace r1 := f4.io 1 rfl
 clear f4
 show Code.wp _ _ _ a4 w4
 refine wp_block ?_
 refine wp_loop (fun a_ w_ => ∃ (k : Nat) (τ : Nat → Foot), (k ≤ (isort ltS xs).length) ∧
      (∀ i < k, badS (isort ltS xs) (i : Int) = false) ∧
      St (Nw w) w 49 a_ w_ τ ∧
      get a_ 12 = (.int .i64 ((k : Int))) ∧
      get a_ 3 = b2x3 ∧
      get a_ 10 = b2x3 ∧
      get a_ 11 = (.int .i64 (((isort ltS xs).length : Int))) ∧
      ownR SpanE 43 (isort ltS xs) (τ 1) b2x3 w_) (fun a_ _ => (isort ltS xs).length - (intOf (get a_ 12)).toNat) ?_ ?_
 · refine ⟨0, τ4, ?_, ?_, st4, (e12.trans (int_eq (by omega))), e3, e10, e11, r1⟩
   · omega
   · intro i hi; omega
 intro a5 w5 hI
 obtain ⟨k, τ5, q0, q1, st5, e12, e3, e10, e11, r1⟩ := hI
 have m12 := e12
 refine wp_seq ?_
 refine region_St (bf := [0]) (sp := [det _ 13 _]) [Ini.any _, io r1] mixed st5 (by kernel_rfl) ⟨trivial, r1, trivial⟩
  ⟨Ob.d fun c => r_lss rfl (c.p e12) (c.p e11), trivial⟩ ?_
 intro a6 w6 τ6 st6 f6
 obtain ⟨e3, e10, e11, e12, -⟩ := f6.ks [(3, _), (10, _), (11, _), (12, _)] ⟨e3, e10, e11, e12, trivial⟩
 have e13 : get a6 13 = (.bool (decide ((k : Int) < ((isort ltS xs).length : Int)))) := f6.v 0 rfl
 replace r1 := f6.io 1 rfl
 clear f6
 show Code.wp _ _ _ a6 w6
 refine wp_seq ?_
 refine wp_cond_split (t := decide ((k : Int) < ((isort ltS xs).length : Int))) e13 (fun hc1 => ?_) (fun hc1 => ?_)
 · try simp only [decide_eq_true_eq] at hc1
   refine wp_skip ?_
   show Code.wp _ _ _ a6 w6
   refine wp_seq ?_
   refine wp_block ?_
   refine wp_seq ?_
   refine region_St (bf := [0, 0, 2, 0, 15, 31]) (sp := [det _ 14 _, det _ 15 _, det _ 16 _, box _ _ 2 5 [(.int .i64 (0)), (.int .i64 (0))], det _ 4 _, box _ _ 2 5 [(.int .i64 ((nth (isort ltS xs) ((k : Int))).1)), (.int .i64 ((nth (isort ltS xs) ((k : Int))).2))]]) [Ini.any _, io r1] mixed st6 (by kernel_rfl) ⟨trivial, r1, trivial⟩
    ⟨Ob.d fun c => r_move rfl (c.p e12),
    Ob.d fun c => r_indexAddr rfl Try.underlying53 Try.sizeOf43 (c.p e10) r1.isSl (c.p e12) (by omega) (by omega),
    Ob.d fun c => r_loadN (vs := [(.int .i64 ((nth (isort ltS xs) ((k : Int))).1)), (.int .i64 ((nth (isort ltS xs) ((k : Int))).2))]) rfl Try.isAgg43 Try.sizeOf43 (c.n 1 rfl) rfl (fun _ _ hj => ((c.io 1 rfl).1.sl).elem (nth_some (i := (k : Int)) (by omega) (by omega)) hj),
    Ob.alloc rfl rfl rfl rfl Try.zeroValue43 rfl,
    Ob.d fun c => r_assign rfl (c.n 0 rfl),
    Ob.storeBox (off := 0) (v := (.agg #[(.int .i64 ((nth (isort ltS xs) ((k : Int))).1)), (.int .i64 ((nth (isort ltS xs) ((k : Int))).2))])) rfl rfl rfl rfl Try.sizeOf43 (Nat.le_of_ble_eq_true rfl) (by simp [Value.cells, Value.oneCell']) rfl (fun _ _ _ _ c => ⟨c.rb 3 rfl, (c.rb 3 rfl).ptr, (c.n 2 rfl)⟩), trivial⟩ ?_
   intro a7 w7 τ7 st7 f7
   obtain ⟨b7x5, e5⟩ : ∃ b, get a7 5 = b := ⟨_, rfl⟩
   obtain ⟨e3, e10, e11, e12, e13, -⟩ := f7.ks [(3, _), (10, _), (11, _), (12, _), (13, _)] ⟨e3, e10, e11, e12, e13, trivial⟩
   have e4 : get a7 4 = (.int .i64 ((k : Int))) := f7.v 4 rfl
   replace r1 := f7.io 1 rfl
   have r2 : boxR 43 [(.int .i64 ((nth (isort ltS xs) ((k : Int))).1)), (.int .i64 ((nth (isort ltS xs) ((k : Int))).2))] (τ7 2) b7x5 w7 := f7.rb 5 e5 rfl
   clear f7
   show Code.wp _ _ _ a7 w7
   refine wp_seq ?_
   refine region_St (bf := [0, 1, 0, 4, 15, 31, 63, 127, 255, 511, 1023, 511, 511, 4607, 14847, 31231, 63999, 131071, 262143, 524287, 1048575, 524287, 524287, 4718591, 15204351, 31981567, 65535999, 134217727, 268435455, 536870911, 1073741823]) (sp := [det _ 17 _, det _ 18 _, det _ 19 _, det _ 20 _, det _ 21 _, det _ 22 _, gdet _ 23 _ _, gdet _ 24 _ _, gdet _ 25 _ _, gdet _ 26 _ _, gdet _ 27 _ _, gdet _ 28 _ _, gdet _ 29 _ _, gdet _ 30 _ _, gdet _ 31 _ _, gdet _ 32 _ _, gdet _ 33 _ _, gdet _ 34 _ _, gdet _ 35 _ _, gdet _ 36 _ _, gdet _ 37 _ _, gdet _ 38 _ _, gdet _ 39 _ _, gdet _ 40 _ _, gdet _ 41 _ _, gdet _ 42 _ _, gdet _ 43 _ _, gdet _ 44 _ _, gdet _ 45 _ _, gdet _ 46 _ _, det _ 47 _]) [Ini.any _, io r1, ib r2] mixed st7 (by kernel_rfl) ⟨trivial, r1, r2, trivial⟩
    ⟨Ob.d fun c => r_fieldAddr rfl Try.underlying43 rfl rfl Try.sizeOf3 ((c.p e5).trans r2.ptr),
    Ob.d fun c => r_load1 rfl Try.isAgg3 (c.n 0 rfl) ((c.ib 2 rfl).cell (j := 0) rfl),
    Ob.d fun c => r_fieldAddr rfl Try.underlying43 rfl rfl Try.sizeOf3 ((c.p e5).trans r2.ptr),
    Ob.d fun c => r_load1 rfl Try.isAgg3 (c.n 2 rfl) ((c.ib 2 rfl).cell (j := 1) rfl),
    Ob.d fun c => r_gtr rfl (c.n 1 rfl) (c.n 3 rfl),
    Ob.d fun c => r_move rfl (c.n 4 rfl),
    Ob.g 5 false rfl fun c hpc => r_move rfl (c.p e4),
    Ob.g 5 false rfl fun c hpc => r_gtr rfl (c.m 6 rfl hpc) rfl,
    Ob.g 5 false rfl fun c hpc => r_move rfl (c.m 7 rfl hpc),
    Ob.gg 8 true rfl fun c hpc => r_fieldAddr rfl Try.underlying43 rfl rfl Try.sizeOf3 ((c.p e5).trans r2.ptr),
    Ob.gg 8 true rfl fun c hpc => r_load1 rfl Try.isAgg3 (c.m 9 rfl hpc) ((c.ib 2 rfl).cell (j := 0) rfl),
    Ob.gg 8 true rfl fun c hpc => r_move rfl (c.p e3),
    Ob.gg 8 true rfl fun c hpc => r_move rfl (c.p e4),
    Ob.gg 8 true rfl fun c hpc => r_sub rfl (c.m 12 rfl hpc) rfl (by have hq0 := bt (hpc.2); have hq1 := bn (hpc.1); omega),
    Ob.gg 8 true rfl fun c hpc => r_indexAddr rfl Try.underlying53 Try.sizeOf43 (c.m 11 rfl hpc) r1.isSl (c.m 13 rfl hpc) (by have hq0 := bt (hpc.2); have hq1 := bn (hpc.1); omega) (by have hq0 := bt (hpc.2); have hq1 := bn (hpc.1); omega),
    Ob.gg 8 true rfl fun c hpc => r_fieldAddr rfl Try.underlying43 rfl rfl Try.sizeOf3 (c.m 14 rfl hpc),
    Ob.gg 8 true rfl fun c hpc => r_load1 rfl Try.isAgg3 (c.m 15 rfl hpc) (((c.io 1 rfl).1.sl).elem (j := 0) (nth_some (i := (k : Int) - 1) (by have hq0 := bt (hpc.2); have hq1 := bn (hpc.1); omega) (by have hq0 := bt (hpc.2); have hq1 := bn (hpc.1); omega)) rfl),
    Ob.gg 8 true rfl fun c hpc => r_eql rfl (c.m 10 rfl hpc) (c.m 16 rfl hpc),
    Ob.gg 8 true rfl fun c hpc => r_move rfl (c.m 17 rfl hpc),
    Ob.gg 18 false rfl fun c hpc => r_fieldAddr rfl Try.underlying43 rfl rfl Try.sizeOf3 ((c.p e5).trans r2.ptr),
    Ob.gg 18 false rfl fun c hpc => r_load1 rfl Try.isAgg3 (c.m 19 rfl hpc) ((c.ib 2 rfl).cell (j := 0) rfl),
    Ob.gg 18 false rfl fun c hpc => r_move rfl (c.p e3),
    Ob.gg 18 false rfl fun c hpc => r_move rfl (c.p e4),
    Ob.gg 18 false rfl fun c hpc => r_sub rfl (c.m 22 rfl hpc) rfl (by have hq0 := bn (hpc.2); have hq1 := bt (hpc.1.2); have hq2 := bn (hpc.1.1); omega),
    Ob.gg 18 false rfl fun c hpc => r_indexAddr rfl Try.underlying53 Try.sizeOf43 (c.m 21 rfl hpc) r1.isSl (c.m 23 rfl hpc) (by have hq0 := bn (hpc.2); have hq1 := bt (hpc.1.2); have hq2 := bn (hpc.1.1); omega) (by have hq0 := bn (hpc.2); have hq1 := bt (hpc.1.2); have hq2 := bn (hpc.1.1); omega),
    Ob.gg 18 false rfl fun c hpc => r_fieldAddr rfl Try.underlying43 rfl rfl Try.sizeOf3 (c.m 24 rfl hpc),
    Ob.gg 18 false rfl fun c hpc => r_load1 rfl Try.isAgg3 (c.m 25 rfl hpc) (((c.io 1 rfl).1.sl).elem (j := 1) (nth_some (i := (k : Int) - 1) (by have hq0 := bn (hpc.2); have hq1 := bt (hpc.1.2); have hq2 := bn (hpc.1.1); omega) (by have hq0 := bn (hpc.2); have hq1 := bt (hpc.1.2); have hq2 := bn (hpc.1.1); omega)) rfl),
    Ob.gg 18 false rfl fun c hpc => r_lss rfl (c.m 20 rfl hpc) (c.m 26 rfl hpc),
    Ob.gg 8 true rfl fun c hpc => r_or rfl (c.m 18 rfl hpc) (fun h => c.m 27 rfl (And.intro hpc h)),
    Ob.g 5 false rfl fun c hpc => r_and rfl (c.m 8 rfl hpc) (fun h => c.m 28 rfl (And.intro hpc h)),
    Ob.d fun c => r_or rfl (c.n 5 rfl) (fun h => c.m 29 rfl h), trivial⟩ ?_
   intro a8 w8 τ8 st8 f8
   obtain ⟨e3, e4, e5, e10, e11, e12, e13, -⟩ := f8.ks [(3, _), (4, _), (5, _), (10, _), (11, _), (12, _), (13, _)] ⟨e3, e4, e5, e10, e11, e12, e13, trivial⟩
   have e47 : get a8 47 = (.bool ((decide ((nth (isort ltS xs) ((k : Int))).2 < (nth (isort ltS xs) ((k : Int))).1)) || ((decide (0 < (k : Int))) && ((decide ((nth (isort ltS xs) ((k : Int))).1 = (nth (isort ltS xs) ((k : Int) - 1)).1)) || (decide ((nth (isort ltS xs) ((k : Int))).1 < (nth (isort ltS xs) ((k : Int) - 1)).2)))))) := f8.v 30 rfl
   replace r1 := f8.io 1 rfl
   replace r2 := f8.ib 2 rfl
   clear f8
   show Code.wp _ _ _ a8 w8
   refine wp_cond_split (t := (decide ((nth (isort ltS xs) ((k : Int))).2 < (nth (isort ltS xs) ((k : Int))).1)) || ((decide (0 < (k : Int))) && ((decide ((nth (isort ltS xs) ((k : Int))).1 = (nth (isort ltS xs) ((k : Int) - 1)).1)) || (decide ((nth (isort ltS xs) ((k : Int))).1 < (nth (isort ltS xs) ((k : Int) - 1)).2))))) e47 (fun hc2 => ?_) (fun hc2 => ?_)
   · have hd2 := hc2; try simp only [Bool.and_eq_true, Bool.or_eq_true, decide_eq_true_eq] at hd2
     refine wp_seq ?_
     refine region_St (bf := [0]) (sp := [det _ 2 _]) [Ini.any _, io r1, ib r2] mixed st8 (by kernel_rfl) ⟨trivial, r1, r2, trivial⟩
      ⟨Ob.d fun c => r_assign rfl rfl, trivial⟩ ?_
     intro a9 w9 τ9 st9 f9
     obtain ⟨e3, e4, e5, e10, e11, e12, e13, e47, -⟩ := f9.ks [(3, _), (4, _), (5, _), (10, _), (11, _), (12, _), (13, _), (47, _)] ⟨e3, e4, e5, e10, e11, e12, e13, e47, trivial⟩
     have e2 : get a9 2 = (.bool (false)) := f9.v 0 rfl
     replace r1 := f9.io 1 rfl
     replace r2 := f9.ib 2 rfl
     clear f9
     show Code.wp _ _ _ a9 w9
     refine wp_ret ?_
     repeat (first | with_reducible refine then_ret ?_ | with_reducible refine block_ret ?_)
     refine ret1 (fn := Try.f33) rfl st9.defers e2 ?_
     exact ⟨congrArg _ (congrArg _ (by exact (apartF_no (k := k) (by omega) (by assumption)).symm)), st9.ext0⟩
   have hd2 := hc2; try simp only [Bool.and_eq_false_iff, Bool.or_eq_false_iff, decide_eq_false_iff_not, Int.not_lt] at hd2
   refine wp_skip ?_
   show _
   show Code.wp _ _ _ a8 w8
   refine region_St (bf := [0, 1]) (sp := [det _ 48 _, det _ 12 _]) [Ini.any _, io r1, ib r2] mixed st8 (by kernel_rfl) ⟨trivial, r1, r2, trivial⟩
    ⟨Ob.d fun c => r_add rfl (c.p e12) rfl (by omega),
    Ob.d fun c => r_move rfl (c.n 0 rfl), trivial⟩ ?_
   intro a10 w10 τ10 st10 f10
   obtain ⟨e3, e4, e5, e10, e11, e13, e47, -⟩ := f10.ks [(3, _), (4, _), (5, _), (10, _), (11, _), (13, _), (47, _)] ⟨e3, e4, e5, e10, e11, e13, e47, trivial⟩
   have e12 : get a10 12 = (.int .i64 ((k : Int) + 1)) := f10.v 1 rfl
   replace r1 := f10.io 1 rfl
   replace r2 := f10.ib 2 rfl
   clear f10
   refine ⟨⟨k + 1, τ10, ?_, ?_, st10, (e12.trans (int_eq (by omega))), e3, e10, e11, r1⟩, ?_⟩
   · omega
   · exact upto_succ q1 (by assumption)
   · simp only [m12, e12, intOf]; omega
 try simp only [decide_eq_false_iff_not, Int.not_lt] at hc1
 refine wp_exit ?_
 repeat (with_reducible refine then_exit ?_)
 refine exit_here ?_
 show Code.wp _ _ _ a6 w6
 refine wp_seq ?_
 refine region_St (bf := [0]) (sp := [det _ 2 _]) [Ini.any _, io r1] mixed st6 (by kernel_rfl) ⟨trivial, r1, trivial⟩
  ⟨Ob.d fun c => r_assign rfl rfl, trivial⟩ ?_
 intro a11 w11 τ11 st11 f11
 have e2 : get a11 2 = (.bool (true)) := f11.v 0 rfl
 clear f11
 show Code.wp _ _ _ a11 w11
 refine wp_ret ?_
 repeat (first | with_reducible refine then_ret ?_ | with_reducible refine block_ret ?_)
 refine ret1 (fn := Try.f33) rfl st11.defers e2 ?_
 exact ⟨congrArg _ (congrArg _ (by exact (apartF_yes q1 (by omega)).symm)), st11.ext0⟩

set_option maxRecDepth 100000 in
theorem refSort_c (v : Value) (xs : List (Int × Int)) (w : World) (hS : SlT SpanE w v xs) (hbig : xs.length ≤ 1000000000) : Calls Try.prog 44 #[v] w (fun e w' => ∃ v', e = .returned v' ∧ Ext none' w w' ∧ NewT SpanE 43 w w' v' (isort lessB xs)) := by
 refine enter (n := 46) Try.func44 rfl rfl (Nat.le_of_ble_eq_true rfl) ?_
 intro a0 τ0 ha st0
 have e0 : get a0 0 = v := ha 0 _ rfl
 clear ha
 have hle := hS.le
 refine wp_seq ?_
 refine region_St (bf := [0]) (sp := [det _ 2 _]) [] mixed st0 (by kernel_rfl) trivial
  ⟨Ob.d fun c => r_assign rfl rfl, trivial⟩ ?_
 intro a1 w1 τ1 st1 f1
 obtain ⟨e0, -⟩ := f1.ks [(0, _)] ⟨e0, trivial⟩
 have e2 : get a1 2 = (.slice none 0 0) := f1.v 0 rfl
 clear f1
 show Code.wp _ _ _ a1 w1
 refine wp_seq ?_
 refine region_St (bf := [0]) (sp := [det _ 3 _]) [] mixed st1 (by kernel_rfl) trivial
  ⟨Ob.d fun c => r_assign rfl rfl, trivial⟩ ?_
 intro a2 w2 τ2 st2 f2
 obtain ⟨e0, e2, -⟩ := f2.ks [(0, _), (2, _)] ⟨e0, e2, trivial⟩
 have e3 : get a2 3 = (.slice none 0 0) := f2.v 0 rfl
 clear f2
 show Code.wp _ _ _ a2 w2
 refine wp_seq ?_
 refine wp_seq ?_
 refine region_St (bf := [0]) (sp := [det _ 4 _]) [] mixed st2 (by kernel_rfl) trivial
  ⟨Ob.d fun c => r_assign rfl rfl, trivial⟩ ?_
 intro a3 w3 τ3 st3 f3
 obtain ⟨e0, e2, e3, -⟩ := f3.ks [(0, _), (2, _), (3, _)] ⟨e0, e2, e3, trivial⟩
 have e4 : get a3 4 = (.int .i64 (0)) := f3.v 0 rfl
 clear f3
 show Code.wp _ _ _ a3 w3
 refine wp_block ?_
 refine wp_loop (fun a_ w_ => ∃ (i : Nat) (o : Value) (τ : Nat → Foot), (i ≤ xs.length) ∧
      St (Nw w) w 46 a_ w_ τ ∧
      get a_ 3 = o ∧
      get a_ 4 = (.int .i64 ((i : Int))) ∧
      get a_ 0 = v ∧
      get a_ 2 = (.slice none 0 0) ∧
      ownR SpanE 43 (isort lessB (xs.take i)) (τ 0) o w_) (fun a_ _ => xs.length - (intOf (get a_ 4)).toNat) ?_ ?_
 · refine ⟨0, (.slice none 0 0), τ3, ?_, st3, e3, (e4.trans (int_eq (by omega))), e0, e2, ?_⟩
   · omega
   · exact ownR.nil _ _ _ _
 intro a4 w4 hI
 obtain ⟨i, o, τ4, q0, st4, e3, e4, e0, e2, r0⟩ := hI
 have hil := isort_length (lt := lessB) (xs.take i)
 have htl := List.length_take_le i xs
 have m4 := e4
 refine wp_seq ?_
 refine wp_seq ?_
 refine region_St (bf := [0, 0, 2, 7]) (sp := [det _ 6 _, det _ 7 _, det _ 8 _, det _ 9 _]) [io r0] mixed st4 (by kernel_rfl) ⟨r0, trivial⟩
  ⟨Ob.d fun c => r_move rfl (c.p e4),
  Ob.d fun c => r_move rfl (c.p e0),
  Ob.d fun c => r_len rfl Try.underlying53 (c.n 1 rfl) hS.sl,
  Ob.d fun c => r_lss rfl (c.n 0 rfl) (c.n 2 rfl), trivial⟩ ?_
 intro a5 w5 τ5 st5 f5
 obtain ⟨e0, e2, e3, e4, -⟩ := f5.ks [(0, _), (2, _), (3, _), (4, _)] ⟨e0, e2, e3, e4, trivial⟩
 have e9 : get a5 9 = (.bool (decide ((i : Int) < (xs.length : Int)))) := f5.v 3 rfl
 replace r0 := f5.io 0 rfl
 clear f5
 show Code.wp _ _ _ a5 w5
 refine wp_cond_split (t := decide ((i : Int) < (xs.length : Int))) e9 (fun hc1 => ?_) (fun hc1 => ?_)
 · try simp only [decide_eq_true_eq] at hc1
   refine wp_skip ?_
   show Code.wp _ _ _ a5 w5
   refine wp_seq ?_
   refine wp_block ?_
   refine wp_seq ?_
   refine region_St (bf := [0, 1, 3]) (sp := [det _ 12 _, det _ 13 _, det _ 5 _]) [io r0] mixed st5 (by kernel_rfl) ⟨r0, trivial⟩
    ⟨Ob.d fun c => r_move rfl (c.p e3),
    Ob.d fun c => r_len rfl Try.underlying53 (c.n 0 rfl) r0.isSl,
    Ob.d fun c => r_assign rfl (c.n 1 rfl), trivial⟩ ?_
   intro a6 w6 τ6 st6 f6
   obtain ⟨e0, e2, e3, e4, e9, -⟩ := f6.ks [(0, _), (2, _), (3, _), (4, _), (9, _)] ⟨e0, e2, e3, e4, e9, trivial⟩
   have e5 : get a6 5 = (.int .i64 (((isort lessB (xs.take i)).length : Int))) := f6.v 2 rfl
   replace r0 := f6.io 0 rfl
   clear f6
   show Code.wp _ _ _ a6 w6
   refine wp_seq ?_
   refine wp_block ?_
   refine wp_loop (fun a_ w_ => ∃ (k : Nat) (τ : Nat → Foot), (k ≤ (isort lessB (xs.take i)).length) ∧
          (∀ q ∈ (isort lessB (xs.take i)).drop k, lessB (nth xs (i : Int)) q = true) ∧
          St (Nw w) w 46 a_ w_ τ ∧
          get a_ 5 = (.int .i64 ((k : Int))) ∧
          get a_ 0 = v ∧
          get a_ 2 = (.slice none 0 0) ∧
          get a_ 3 = o ∧
          get a_ 4 = (.int .i64 ((i : Int))) ∧
          get a_ 9 = (.bool (decide ((i : Int) < (xs.length : Int)))) ∧
          ownR SpanE 43 (isort lessB (xs.take i)) (τ 0) o w_) (fun a_ _ => (intOf (get a_ 5)).toNat) ?_ ?_
   · refine ⟨(isort lessB (xs.take i)).length, τ6, ?_, ?_, st6, (e5.trans (int_eq (by omega))), e0, e2, e3, e4, e9, r0⟩
     · omega
     · simp
   intro a7 w7 hI
   obtain ⟨k, τ7, q0, q1, st7, e5, e0, e2, e3, e4, e9, r0⟩ := hI
   have m5 := e5
   refine wp_seq ?_
   refine wp_seq ?_
   refine region_St (bf := [0, 1, 3, 7, 7, 31, 63, 7, 7, 263, 903, 1927, 4095, 8191]) (sp := [det _ 14 _, det _ 15 _, det _ 16 _, gdet _ 17 _ _, gdet _ 18 _ _, gdet _ 19 _ _, gdet _ 20 _ _, gdet _ 21 _ _, gdet _ 22 _ _, gdet _ 23 _ _, gdet _ 24 _ _, gdet _ 25 _ _, gdet _ 26 _ _, det _ 27 _]) [io r0] mixed st7 (by kernel_rfl) ⟨r0, trivial⟩
    ⟨Ob.d fun c => r_move rfl (c.p e5),
    Ob.d fun c => r_gtr rfl (c.n 0 rfl) rfl,
    Ob.d fun c => r_move rfl (c.n 1 rfl),
    Ob.g 2 true rfl fun c hpc => r_move rfl (c.p e0),
    Ob.g 2 true rfl fun c hpc => r_move rfl (c.p e4),
    Ob.g 2 true rfl fun c hpc => r_indexAddr rfl Try.underlying53 Try.sizeOf43 (c.m 3 rfl hpc) hS.sl (c.m 4 rfl hpc) (by have hq0 := bt hpc; omega) (by have hq0 := bt hpc; omega),
    Ob.g 2 true rfl fun c hpc => r_loadN (vs := [(.int .i64 ((nth xs ((i : Int))).1)), (.int .i64 ((nth xs ((i : Int))).2))]) rfl Try.isAgg43 Try.sizeOf43 (c.m 5 rfl hpc) rfl (fun _ _ hj => ((hS.at (st7.ext.trans c.J.ext))).elem (nth_some (i := (i : Int)) (by have hq0 := bt hpc; omega) (by have hq0 := bt hpc; omega)) hj),
    Ob.g 2 true rfl fun c hpc => r_move rfl (c.p e3),
    Ob.g 2 true rfl fun c hpc => r_move rfl (c.p e5),
    Ob.g 2 true rfl fun c hpc => r_sub rfl (c.m 8 rfl hpc) rfl (by have hq0 := bt hpc; omega),
    Ob.g 2 true rfl fun c hpc => r_indexAddr rfl Try.underlying53 Try.sizeOf43 (c.m 7 rfl hpc) r0.isSl (c.m 9 rfl hpc) (by have hq0 := bt hpc; omega) (by have hq0 := bt hpc; omega),
    Ob.g 2 true rfl fun c hpc => r_loadN (vs := [(.int .i64 ((nth (isort lessB (xs.take i)) ((k : Int) - 1)).1)), (.int .i64 ((nth (isort lessB (xs.take i)) ((k : Int) - 1)).2))]) rfl Try.isAgg43 Try.sizeOf43 (c.m 10 rfl hpc) rfl (fun _ _ hj => ((c.io 0 rfl).1.sl).elem (nth_some (i := (k : Int) - 1) (by have hq0 := bt hpc; omega) (by have hq0 := bt hpc; omega)) hj),
    Ob.gc 2 true rfl fun c hpc => ⟨_, _, (e_call2 rfl rfl Try.call42 (c.m 6 rfl hpc) (c.m 11 rfl hpc)), refLess_c (nth xs ((i : Int))) (nth (isort lessB (xs.take i)) ((k : Int) - 1)) _⟩,
    Ob.d fun c => r_and rfl (c.n 2 rfl) (fun h => c.m 12 rfl h), trivial⟩ ?_
   intro a8 w8 τ8 st8 f8
   obtain ⟨e0, e2, e3, e4, e5, e9, -⟩ := f8.ks [(0, _), (2, _), (3, _), (4, _), (5, _), (9, _)] ⟨e0, e2, e3, e4, e5, e9, trivial⟩
   have e27 : get a8 27 = (.bool ((decide (0 < (k : Int))) && (lessB (nth xs ((i : Int))) (nth (isort lessB (xs.take i)) ((k : Int) - 1))))) := f8.v 13 rfl
   replace r0 := f8.io 0 rfl
   clear f8
   show Code.wp _ _ _ a8 w8
   refine wp_cond_split (t := (decide (0 < (k : Int))) && (lessB (nth xs ((i : Int))) (nth (isort lessB (xs.take i)) ((k : Int) - 1)))) e27 (fun hc2 => ?_) (fun hc2 => ?_)
   · have hd2 := hc2; try simp only [Bool.and_eq_true, decide_eq_true_eq] at hd2
     refine wp_skip ?_
     show Code.wp _ _ _ a8 w8
     refine wp_block ?_
     refine region_St (bf := [0, 1, 3]) (sp := [det _ 28 _, det _ 29 _, det _ 5 _]) [io r0] mixed st8 (by kernel_rfl) ⟨r0, trivial⟩
      ⟨Ob.d fun c => r_move rfl (c.p e5),
      Ob.d fun c => r_sub rfl (c.n 0 rfl) rfl (by omega),
      Ob.d fun c => r_assign rfl (c.n 1 rfl), trivial⟩ ?_
     intro a9 w9 τ9 st9 f9
     obtain ⟨e0, e2, e3, e4, e9, e27, -⟩ := f9.ks [(0, _), (2, _), (3, _), (4, _), (9, _), (27, _)] ⟨e0, e2, e3, e4, e9, e27, trivial⟩
     have e5 : get a9 5 = (.int .i64 ((k : Int) - 1)) := f9.v 2 rfl
     replace r0 := f9.io 0 rfl
     clear f9
     show _
     refine ⟨⟨k - 1, τ9, ?_, ?_, st9, (e5.trans (int_eq (by omega))), e0, e2, e3, e4, e9, r0⟩, ?_⟩
     · omega
     · obtain ⟨h1_, h_⟩ := (by assumption : (0 : Int) < (k : Int) ∧ lessB (nth xs (i : Int)) (nth (isort lessB (xs.take i)) ((k : Int) - 1)) = true); exact down_step (by omega) q0 q1 h_
     · simp only [m5, e5, intOf]; omega
   have hd2 := hc2; try simp only [Bool.and_eq_false_iff, decide_eq_false_iff_not, Int.not_lt] at hd2
   refine wp_exit ?_
   repeat (with_reducible refine then_exit ?_)
   refine exit_here ?_
   show Code.wp _ _ _ a8 w8
   refine region_St (bf := [0, 0, 0, 6, 15, 0, 0, 96, 224, 480, 1023, 0, 0, 6144, 16383, 32767]) (sp := [own SpanE 43 _ 1 30 ([]), det _ 31 _, det _ 32 _, det _ 33 _, own _ _ _ 1 34 _, det _ 35 _, det _ 36 _, det _ 37 _, det _ 38 _, own SpanE 43 _ 2 39 ([(nth xs ((i : Int)))]), own _ _ _ 1 40 _, det _ 41 _, det _ 42 _, det _ 43 _, own _ _ _ 1 44 _, own _ _ _ 1 3 _]) [io r0] mixed st8 (by kernel_rfl) ⟨r0, trivial⟩
    ⟨Ob.buildEmpty rfl rfl rfl rfl Try.underlying53 Try.sizeOf43,
    Ob.d fun c => r_move rfl (c.p e3),
    Ob.d fun c => r_move rfl (c.p e5),
    Ob.d fun c => r_sliceHi rfl Try.underlying53 Try.sizeOf43 (c.n 1 rfl) r0.isSl (c.n 2 rfl) (by omega) (by omega),
    Ob.append (t0 := 30) rfl rfl rfl rfl Try.underlying53 (i := Try.t43) rfl rfl rfl rfl (by simp only [maxLen]; (try simp); omega) (by show _ * 16 ≤ _; (try simp); omega) (fun _ _ _ _ c => ⟨c.ro 0 rfl, rfl, ⟨_, (c.n 3 rfl), ((c.io 0 rfl).1.sl.sub (lo := 0) (hi := k) (by omega) (by omega))⟩⟩),
    Ob.d fun c => r_move rfl (c.p e0),
    Ob.d fun c => r_move rfl (c.p e4),
    Ob.d fun c => r_indexAddr rfl Try.underlying53 Try.sizeOf43 (c.n 5 rfl) hS.sl (c.n 6 rfl) (by omega) (by omega),
    Ob.d fun c => r_loadN (vs := [(.int .i64 ((nth xs ((i : Int))).1)), (.int .i64 ((nth xs ((i : Int))).2))]) rfl Try.isAgg43 Try.sizeOf43 (c.n 7 rfl) rfl (fun _ _ hj => ((hS.at (st8.ext.trans c.J.ext))).elem (nth_some (i := (i : Int)) (by omega) (by omega)) hj),
    Ob.buildSlice (cells := #[(.int .i64 ((nth xs ((i : Int))).1)), (.int .i64 ((nth xs ((i : Int))).2))]) rfl rfl rfl rfl Try.underlying53 Try.sizeOf43 Try.zeroValue43 rfl (by decide) (by decide) (fun _ _ _ _ c => fill1 (c.n 8 rfl) (by kernel_rfl)) rfl,
    Ob.append (t0 := 34) rfl rfl rfl rfl Try.underlying53 (i := Try.t43) rfl rfl rfl rfl (by simp only [maxLen]; (try simp); omega) (by show _ * 16 ≤ _; (try simp); omega) (fun _ _ _ _ c => ⟨c.ro 4 rfl, rfl, ⟨_, rfl, (c.ro 9 rfl).1.sl⟩⟩),
    Ob.d fun c => r_move rfl (c.p e3),
    Ob.d fun c => r_move rfl (c.p e5),
    Ob.d fun c => r_sliceLo rfl Try.underlying53 Try.sizeOf43 (c.n 11 rfl) r0.isSl (c.n 12 rfl) (by omega) (by omega),
    Ob.append (t0 := 40) rfl rfl rfl rfl Try.underlying53 (i := Try.t43) rfl rfl rfl rfl (by simp only [maxLen]; (try simp); omega) (by show _ * 16 ≤ _; (try simp); omega) (fun _ _ _ _ c => ⟨c.ro 10 rfl, rfl, ⟨_, (c.n 13 rfl), ((c.io 0 rfl).1.sl.sub (lo := k) (hi := (isort lessB (xs.take i)).length) (by omega) (by omega))⟩⟩),
    Ob.moveT (t0 := 44) rfl rfl rfl rfl rfl (.inr rfl) (fun _ _ _ _ c => ⟨c.ro 14 rfl, rfl⟩), trivial⟩ ?_
   intro a10 w10 τ10 st10 f10
   obtain ⟨b10x3, e3⟩ : ∃ b, get a10 3 = b := ⟨_, rfl⟩
   obtain ⟨b10x39, e39⟩ : ∃ b, get a10 39 = b := ⟨_, rfl⟩
   obtain ⟨e0, e2, e4, e5, e9, e27, -⟩ := f10.ks [(0, _), (2, _), (4, _), (5, _), (9, _), (27, _)] ⟨e0, e2, e4, e5, e9, e27, trivial⟩
   replace r0 := f10.io 0 rfl
   have r1 : ownR SpanE 43 (((([]) ++ (((isort lessB (xs.take i)).drop 0).take (k - 0))) ++ ([(nth xs ((i : Int)))])) ++ (((isort lessB (xs.take i)).drop k).take (((isort lessB (xs.take i)).length) - k))) (τ10 1) b10x3 w10 := f10.ro 15 e3 rfl
   have r2 : ownR SpanE 43 ([(nth xs ((i : Int)))]) (τ10 2) b10x39 w10 := f10.ro 9 e39 rfl
   clear f10
   show _
   show Code.wp _ _ _ a10 w10
   refine region_St (bf := [0, 1, 3]) (sp := [det _ 10 _, det _ 11 _, det _ 4 _]) [io r0, io r1, io r2] mixed st10 (by kernel_rfl) ⟨r0, r1, r2, trivial⟩
    ⟨Ob.d fun c => r_move rfl (c.p e4),
    Ob.d fun c => r_add rfl (c.n 0 rfl) rfl (by omega),
    Ob.d fun c => r_assign rfl (c.n 1 rfl), trivial⟩ ?_
   intro a11 w11 τ11 st11 f11
   obtain ⟨e0, e2, e3, e5, e9, e27, -⟩ := f11.ks [(0, _), (2, _), (3, _), (5, _), (9, _), (27, _)] ⟨e0, e2, e3, e5, e9, e27, trivial⟩
   have e4 : get a11 4 = (.int .i64 ((i : Int) + 1)) := f11.v 2 rfl
   replace r0 := f11.io 0 rfl
   replace r1 := f11.io 1 rfl
   replace r2 := f11.io 2 rfl
   clear f11
   refine ⟨⟨i + 1, b10x3, (retag τ11 [(0, 1)]), ?_, (st11.retag [(0, 1)] (by decide)), e3, (e4.trans (int_eq (by omega))), e0, e2, ?_⟩, ?_⟩
   · omega
   · exact r1.cast (by exact refIns (by omega) q0 q1 (by assumption))
   · simp only [m4, e4, intOf]; omega
 try simp only [decide_eq_false_iff_not, Int.not_lt] at hc1
 refine wp_exit ?_
 repeat (with_reducible refine then_exit ?_)
 refine exit_here ?_
 show Code.wp _ _ _ a5 w5
 refine wp_seq ?_
 refine region_St (bf := [0, 1]) (sp := [det _ 45 _, det _ 2 _]) [io r0] mixed st5 (by kernel_rfl) ⟨r0, trivial⟩
  ⟨Ob.d fun c => r_move rfl (c.p e3),
  Ob.d fun c => r_assign rfl (c.n 0 rfl), trivial⟩ ?_
 intro a12 w12 τ12 st12 f12
 have e2 : get a12 2 = o := f12.v 1 rfl
 replace r0 := f12.io 0 rfl
 clear f12
 show Code.wp _ _ _ a12 w12
 refine wp_ret ?_
 repeat (first | with_reducible refine then_ret ?_ | with_reducible refine block_ret ?_)
 refine ret1 (fn := Try.f44) rfl st12.defers e2 ?_
 replace r0 := r0.cast (show isort lessB xs = _ from by rw [List.take_of_length_le (by omega)])
 exact ⟨_, rfl, st12.ext0, r0.1, fun g_ h_ => (st12.bnd _ g_ (r0.2 g_ h_)).1⟩

set_option maxRecDepth 100000 in
theorem refApart_c (v : Value) (xs : List (Int × Int)) (w : World) (hS : SlT SpanE w v xs) (hbig : xs.length ≤ 1000000000) : Calls Try.prog 29 #[v] w (fun e w' => e = .returned (.bool (apartR (isort lessB xs))) ∧ Ext none' w w') := by
 refine enter (n := 54) Try.func29 rfl rfl (Nat.le_of_ble_eq_true rfl) ?_
 intro a0 τ0 ha st0
 have e0 : get a0 0 = v := ha 0 _ rfl
 clear ha
 have hle := hS.le
 refine wp_seq ?_
 refine region_St (bf := [0]) (sp := [det _ 2 _]) [] mixed st0 (by kernel_rfl) trivial
  ⟨Ob.d fun c => r_assign rfl rfl, trivial⟩ ?_
 intro a1 w1 τ1 st1 f1
 obtain ⟨e0, -⟩ := f1.ks [(0, _)] ⟨e0, trivial⟩
 have e2 : get a1 2 = (.bool (false)) := f1.v 0 rfl
 clear f1
 show Code.wp _ _ _ a1 w1
 refine wp_seq ?_
 refine region_St (bf := [0, 1, 3]) (sp := [det _ 5 _, own _ _ _ 1 6 _, own _ _ _ 1 3 _]) [] mixed st1 (by kernel_rfl) trivial
  ⟨Ob.d fun c => r_move rfl (c.p e0),
  Ob.callOwn rfl rfl rfl (fun _ a_ _ _ c => ⟨_, _, (e_call1 rfl rfl Try.call44 (c.n 0 rfl)), refSort_c v xs _ (hS.at (st1.ext.trans c.J.ext)) (by omega)⟩),
  Ob.moveT (t0 := 6) rfl rfl rfl rfl rfl (.inr rfl) (fun _ _ _ _ c => ⟨c.ro 1 rfl, rfl⟩), trivial⟩ ?_
 intro a2 w2 τ2 st2 f2
 obtain ⟨b2x3, e3⟩ : ∃ b, get a2 3 = b := ⟨_, rfl⟩
 obtain ⟨e2, -⟩ := f2.ks [(2, _)] ⟨e2, trivial⟩
 have r1 : ownR SpanE 43 (isort lessB xs) (τ2 1) b2x3 w2 := f2.ro 2 e3 rfl
 clear f2
 have hil := isort_length (lt := lessB) xs
 show Code.wp _ _ _ a2 w2
 refine wp_seq ?_
 refine wp_seq ?_
 refine region_St (bf := [0]) (sp := [det _ 4 _]) [Ini.any _, io r1] mixed st2 (by kernel_rfl) ⟨trivial, r1, trivial⟩
  ⟨Ob.d fun c => r_assign rfl rfl, trivial⟩ ?_
 intro a3 w3 τ3 st3 f3
 obtain ⟨e2, e3, -⟩ := f3.ks [(2, _), (3, _)] ⟨e2, e3, trivial⟩
 have e4 : get a3 4 = (.int .i64 (0)) := f3.v 0 rfl
 replace r1 := f3.io 1 rfl
 clear f3
 show Code.wp _ _ _ a3 w3
 refine wp_block ?_
 refine wp_loop (fun a_ w_ => ∃ (k : Nat) (τ : Nat → Foot), (k ≤ (isort lessB xs).length) ∧
      (∀ i < k, badR (isort lessB xs) (i : Int) = false) ∧
      St (Nw w) w 54 a_ w_ τ ∧
      get a_ 4 = (.int .i64 ((k : Int))) ∧
      get a_ 3 = b2x3 ∧
      ownR SpanE 43 (isort lessB xs) (τ 1) b2x3 w_) (fun a_ _ => (isort lessB xs).length - (intOf (get a_ 4)).toNat) ?_ ?_
 · refine ⟨0, τ3, ?_, ?_, st3, (e4.trans (int_eq (by omega))), e3, r1⟩
   · omega
   · intro i hi; omega
 intro a4 w4 hI
 obtain ⟨k, τ4, q0, q1, st4, e4, e3, r1⟩ := hI
 have m4 := e4
 refine wp_seq ?_
 refine wp_seq ?_
 refine region_St (bf := [0, 0, 2, 7]) (sp := [det _ 7 _, det _ 8 _, det _ 9 _, det _ 10 _]) [Ini.any _, io r1] mixed st4 (by kernel_rfl) ⟨trivial, r1, trivial⟩
  ⟨Ob.d fun c => r_move rfl (c.p e4),
  Ob.d fun c => r_move rfl (c.p e3),
  Ob.d fun c => r_len rfl Try.underlying53 (c.n 1 rfl) r1.isSl,
  Ob.d fun c => r_lss rfl (c.n 0 rfl) (c.n 2 rfl), trivial⟩ ?_
 intro a5 w5 τ5 st5 f5
 obtain ⟨e3, e4, -⟩ := f5.ks [(3, _), (4, _)] ⟨e3, e4, trivial⟩
 have e10 : get a5 10 = (.bool (decide ((k : Int) < ((isort lessB xs).length : Int)))) := f5.v 3 rfl
 replace r1 := f5.io 1 rfl
 clear f5
 show Code.wp _ _ _ a5 w5
 refine wp_cond_split (t := decide ((k : Int) < ((isort lessB xs).length : Int))) e10 (fun hc1 => ?_) (fun hc1 => ?_)
 · try simp only [decide_eq_true_eq] at hc1
   refine wp_skip ?_
   show Code.wp _ _ _ a5 w5
   refine wp_seq ?_
   refine wp_block ?_
   refine wp_seq ?_
   refine wp_seq ?_
   refine region_St (bf := [0, 0, 3, 7, 15, 0, 0, 96, 224, 480, 1023]) (sp := [det _ 13 _, det _ 14 _, det _ 15 _, det _ 16 _, det _ 17 _, det _ 18 _, det _ 19 _, det _ 20 _, det _ 21 _, det _ 22 _, det _ 23 _]) [Ini.any _, io r1] mixed st5 (by kernel_rfl) ⟨trivial, r1, trivial⟩
    ⟨Ob.d fun c => r_move rfl (c.p e3),
    Ob.d fun c => r_move rfl (c.p e4),
    Ob.d fun c => r_indexAddr rfl Try.underlying53 Try.sizeOf43 (c.n 0 rfl) r1.isSl (c.n 1 rfl) (by omega) (by omega),
    Ob.d fun c => r_fieldAddr rfl Try.underlying43 rfl rfl Try.sizeOf3 (c.n 2 rfl),
    Ob.d fun c => r_load1 rfl Try.isAgg3 (c.n 3 rfl) (((c.io 1 rfl).1.sl).elem (j := 0) (nth_some (i := (k : Int)) (by omega) (by omega)) rfl),
    Ob.d fun c => r_move rfl (c.p e3),
    Ob.d fun c => r_move rfl (c.p e4),
    Ob.d fun c => r_indexAddr rfl Try.underlying53 Try.sizeOf43 (c.n 5 rfl) r1.isSl (c.n 6 rfl) (by omega) (by omega),
    Ob.d fun c => r_fieldAddr rfl Try.underlying43 rfl rfl Try.sizeOf3 (c.n 7 rfl),
    Ob.d fun c => r_load1 rfl Try.isAgg3 (c.n 8 rfl) (((c.io 1 rfl).1.sl).elem (j := 1) (nth_some (i := (k : Int)) (by omega) (by omega)) rfl),
    Ob.d fun c => r_gtr rfl (c.n 4 rfl) (c.n 9 rfl), trivial⟩ ?_
   intro a6 w6 τ6 st6 f6
   obtain ⟨e3, e4, e10, -⟩ := f6.ks [(3, _), (4, _), (10, _)] ⟨e3, e4, e10, trivial⟩
   have e23 : get a6 23 = (.bool (decide ((nth (isort lessB xs) ((k : Int))).2 < (nth (isort lessB xs) ((k : Int))).1))) := f6.v 10 rfl
   replace r1 := f6.io 1 rfl
   clear f6
   show Code.wp _ _ _ a6 w6
   refine wp_cond_split (t := decide ((nth (isort lessB xs) ((k : Int))).2 < (nth (isort lessB xs) ((k : Int))).1)) e23 (fun hc2 => ?_) (fun hc2 => ?_)
   · have hd2 := hc2; try simp only [decide_eq_true_eq] at hd2
     refine wp_seq ?_
     refine region_St (bf := [0]) (sp := [det _ 2 _]) [Ini.any _, io r1] mixed st6 (by kernel_rfl) ⟨trivial, r1, trivial⟩
      ⟨Ob.d fun c => r_assign rfl rfl, trivial⟩ ?_
     intro a7 w7 τ7 st7 f7
     obtain ⟨e3, e4, e10, e23, -⟩ := f7.ks [(3, _), (4, _), (10, _), (23, _)] ⟨e3, e4, e10, e23, trivial⟩
     have e2 : get a7 2 = (.bool (false)) := f7.v 0 rfl
     replace r1 := f7.io 1 rfl
     clear f7
     show Code.wp _ _ _ a7 w7
     refine wp_ret ?_
     repeat (first | with_reducible refine then_ret ?_ | with_reducible refine block_ret ?_)
     refine ret1 (fn := Try.f29) rfl st7.defers e2 ?_
     exact ⟨congrArg _ (congrArg _ (by exact (apartR_no (k := k) (by omega) (by first | exact badR_1 (by assumption) | exact badR_2 (by assumption))).symm)), st7.ext0⟩
   have hd2 := hc2; try simp only [decide_eq_false_iff_not, Int.not_lt] at hd2
   refine wp_skip ?_
   show Code.wp _ _ _ a6 w6
   refine wp_seq ?_
   refine region_St (bf := [0, 1, 3, 7, 7, 31, 63, 127, 7, 7, 519, 1799, 3847, 7943, 16383, 32767, 65535, 65535, 262143, 524287, 1048575, 65535, 65535, 4259839, 14745599, 31522815, 65077247, 134217727, 268435455, 536870911]) (sp := [det _ 24 _, det _ 25 _, det _ 26 _, gdet _ 27 _ _, gdet _ 28 _ _, gdet _ 29 _ _, gdet _ 30 _ _, gdet _ 31 _ _, gdet _ 32 _ _, gdet _ 33 _ _, gdet _ 34 _ _, gdet _ 35 _ _, gdet _ 36 _ _, gdet _ 37 _ _, gdet _ 38 _ _, gdet _ 39 _ _, gdet _ 40 _ _, gdet _ 41 _ _, gdet _ 42 _ _, gdet _ 43 _ _, gdet _ 44 _ _, gdet _ 45 _ _, gdet _ 46 _ _, gdet _ 47 _ _, gdet _ 48 _ _, gdet _ 49 _ _, gdet _ 50 _ _, gdet _ 51 _ _, gdet _ 52 _ _, det _ 53 _]) [Ini.any _, io r1] mixed st6 (by kernel_rfl) ⟨trivial, r1, trivial⟩
    ⟨Ob.d fun c => r_move rfl (c.p e4),
    Ob.d fun c => r_gtr rfl (c.n 0 rfl) rfl,
    Ob.d fun c => r_move rfl (c.n 1 rfl),
    Ob.g 2 true rfl fun c hpc => r_move rfl (c.p e3),
    Ob.g 2 true rfl fun c hpc => r_move rfl (c.p e4),
    Ob.g 2 true rfl fun c hpc => r_indexAddr rfl Try.underlying53 Try.sizeOf43 (c.m 3 rfl hpc) r1.isSl (c.m 4 rfl hpc) (by have hq0 := bt hpc; omega) (by have hq0 := bt hpc; omega),
    Ob.g 2 true rfl fun c hpc => r_fieldAddr rfl Try.underlying43 rfl rfl Try.sizeOf3 (c.m 5 rfl hpc),
    Ob.g 2 true rfl fun c hpc => r_load1 rfl Try.isAgg3 (c.m 6 rfl hpc) (((c.io 1 rfl).1.sl).elem (j := 0) (nth_some (i := (k : Int)) (by have hq0 := bt hpc; omega) (by have hq0 := bt hpc; omega)) rfl),
    Ob.g 2 true rfl fun c hpc => r_move rfl (c.p e3),
    Ob.g 2 true rfl fun c hpc => r_move rfl (c.p e4),
    Ob.g 2 true rfl fun c hpc => r_sub rfl (c.m 9 rfl hpc) rfl (by have hq0 := bt hpc; omega),
    Ob.g 2 true rfl fun c hpc => r_indexAddr rfl Try.underlying53 Try.sizeOf43 (c.m 8 rfl hpc) r1.isSl (c.m 10 rfl hpc) (by have hq0 := bt hpc; omega) (by have hq0 := bt hpc; omega),
    Ob.g 2 true rfl fun c hpc => r_fieldAddr rfl Try.underlying43 rfl rfl Try.sizeOf3 (c.m 11 rfl hpc),
    Ob.g 2 true rfl fun c hpc => r_load1 rfl Try.isAgg3 (c.m 12 rfl hpc) (((c.io 1 rfl).1.sl).elem (j := 0) (nth_some (i := (k : Int) - 1) (by have hq0 := bt hpc; omega) (by have hq0 := bt hpc; omega)) rfl),
    Ob.g 2 true rfl fun c hpc => r_leq rfl (c.m 7 rfl hpc) (c.m 13 rfl hpc),
    Ob.g 2 true rfl fun c hpc => r_move rfl (c.m 14 rfl hpc),
    Ob.gg 15 false rfl fun c hpc => r_move rfl (c.p e3),
    Ob.gg 15 false rfl fun c hpc => r_move rfl (c.p e4),
    Ob.gg 15 false rfl fun c hpc => r_indexAddr rfl Try.underlying53 Try.sizeOf43 (c.m 16 rfl hpc) r1.isSl (c.m 17 rfl hpc) (by have hq0 := bn (hpc.2); have hq1 := bt (hpc.1); omega) (by have hq0 := bn (hpc.2); have hq1 := bt (hpc.1); omega),
    Ob.gg 15 false rfl fun c hpc => r_fieldAddr rfl Try.underlying43 rfl rfl Try.sizeOf3 (c.m 18 rfl hpc),
    Ob.gg 15 false rfl fun c hpc => r_load1 rfl Try.isAgg3 (c.m 19 rfl hpc) (((c.io 1 rfl).1.sl).elem (j := 0) (nth_some (i := (k : Int)) (by have hq0 := bn (hpc.2); have hq1 := bt (hpc.1); omega) (by have hq0 := bn (hpc.2); have hq1 := bt (hpc.1); omega)) rfl),
    Ob.gg 15 false rfl fun c hpc => r_move rfl (c.p e3),
    Ob.gg 15 false rfl fun c hpc => r_move rfl (c.p e4),
    Ob.gg 15 false rfl fun c hpc => r_sub rfl (c.m 22 rfl hpc) rfl (by have hq0 := bn (hpc.2); have hq1 := bt (hpc.1); omega),
    Ob.gg 15 false rfl fun c hpc => r_indexAddr rfl Try.underlying53 Try.sizeOf43 (c.m 21 rfl hpc) r1.isSl (c.m 23 rfl hpc) (by have hq0 := bn (hpc.2); have hq1 := bt (hpc.1); omega) (by have hq0 := bn (hpc.2); have hq1 := bt (hpc.1); omega),
    Ob.gg 15 false rfl fun c hpc => r_fieldAddr rfl Try.underlying43 rfl rfl Try.sizeOf3 (c.m 24 rfl hpc),
    Ob.gg 15 false rfl fun c hpc => r_load1 rfl Try.isAgg3 (c.m 25 rfl hpc) (((c.io 1 rfl).1.sl).elem (j := 1) (nth_some (i := (k : Int) - 1) (by have hq0 := bn (hpc.2); have hq1 := bt (hpc.1); omega) (by have hq0 := bn (hpc.2); have hq1 := bt (hpc.1); omega)) rfl),
    Ob.gg 15 false rfl fun c hpc => r_lss rfl (c.m 20 rfl hpc) (c.m 26 rfl hpc),
    Ob.g 2 true rfl fun c hpc => r_or rfl (c.m 15 rfl hpc) (fun h => c.m 27 rfl (And.intro hpc h)),
    Ob.d fun c => r_and rfl (c.n 2 rfl) (fun h => c.m 28 rfl h), trivial⟩ ?_
   intro a8 w8 τ8 st8 f8
   obtain ⟨e3, e4, e10, e23, -⟩ := f8.ks [(3, _), (4, _), (10, _), (23, _)] ⟨e3, e4, e10, e23, trivial⟩
   have e53 : get a8 53 = (.bool ((decide (0 < (k : Int))) && ((decide ((nth (isort lessB xs) ((k : Int))).1 ≤ (nth (isort lessB xs) ((k : Int) - 1)).1)) || (decide ((nth (isort lessB xs) ((k : Int))).1 < (nth (isort lessB xs) ((k : Int) - 1)).2))))) := f8.v 29 rfl
   replace r1 := f8.io 1 rfl
   clear f8
   show Code.wp _ _ _ a8 w8
   refine wp_cond_split (t := (decide (0 < (k : Int))) && ((decide ((nth (isort lessB xs) ((k : Int))).1 ≤ (nth (isort lessB xs) ((k : Int) - 1)).1)) || (decide ((nth (isort lessB xs) ((k : Int))).1 < (nth (isort lessB xs) ((k : Int) - 1)).2)))) e53 (fun hc3 => ?_) (fun hc3 => ?_)
   · have hd3 := hc3; try simp only [Bool.and_eq_true, Bool.or_eq_true, decide_eq_true_eq] at hd3
     refine wp_seq ?_
     refine region_St (bf := [0]) (sp := [det _ 2 _]) [Ini.any _, io r1] mixed st8 (by kernel_rfl) ⟨trivial, r1, trivial⟩
      ⟨Ob.d fun c => r_assign rfl rfl, trivial⟩ ?_
     intro a9 w9 τ9 st9 f9
     obtain ⟨e3, e4, e10, e23, e53, -⟩ := f9.ks [(3, _), (4, _), (10, _), (23, _), (53, _)] ⟨e3, e4, e10, e23, e53, trivial⟩
     have e2 : get a9 2 = (.bool (false)) := f9.v 0 rfl
     replace r1 := f9.io 1 rfl
     clear f9
     show Code.wp _ _ _ a9 w9
     refine wp_ret ?_
     repeat (first | with_reducible refine then_ret ?_ | with_reducible refine block_ret ?_)
     refine ret1 (fn := Try.f29) rfl st9.defers e2 ?_
     exact ⟨congrArg _ (congrArg _ (by exact (apartR_no (k := k) (by omega) (by first | exact badR_1 (by assumption) | exact badR_2 (by assumption))).symm)), st9.ext0⟩
   have hd3 := hc3; try simp only [Bool.and_eq_false_iff, Bool.or_eq_false_iff, decide_eq_false_iff_not, Int.not_lt, Int.not_le] at hd3
   refine wp_skip ?_
   show _
   show Code.wp _ _ _ a8 w8
   refine region_St (bf := [0, 1, 3]) (sp := [det _ 11 _, det _ 12 _, det _ 4 _]) [Ini.any _, io r1] mixed st8 (by kernel_rfl) ⟨trivial, r1, trivial⟩
    ⟨Ob.d fun c => r_move rfl (c.p e4),
    Ob.d fun c => r_add rfl (c.n 0 rfl) rfl (by omega),
    Ob.d fun c => r_assign rfl (c.n 1 rfl), trivial⟩ ?_
   intro a10 w10 τ10 st10 f10
   obtain ⟨e3, e10, e23, e53, -⟩ := f10.ks [(3, _), (10, _), (23, _), (53, _)] ⟨e3, e10, e23, e53, trivial⟩
   have e4 : get a10 4 = (.int .i64 ((k : Int) + 1)) := f10.v 2 rfl
   replace r1 := f10.io 1 rfl
   clear f10
   refine ⟨⟨k + 1, τ10, ?_, ?_, st10, (e4.trans (int_eq (by omega))), e3, r1⟩, ?_⟩
   · omega
   · exact upto_succ q1 (badR_no (by assumption) (by assumption))
   · simp only [m4, e4, intOf]; omega
 try simp only [decide_eq_false_iff_not, Int.not_lt] at hc1
 refine wp_exit ?_
 repeat (with_reducible refine then_exit ?_)
 refine exit_here ?_
 show Code.wp _ _ _ a5 w5
 refine wp_seq ?_
 refine region_St (bf := [0]) (sp := [det _ 2 _]) [Ini.any _, io r1] mixed st5 (by kernel_rfl) ⟨trivial, r1, trivial⟩
  ⟨Ob.d fun c => r_assign rfl rfl, trivial⟩ ?_
 intro a11 w11 τ11 st11 f11
 have e2 : get a11 2 = (.bool (true)) := f11.v 0 rfl
 clear f11
 show Code.wp _ _ _ a11 w11
 refine wp_ret ?_
 repeat (first | with_reducible refine then_ret ?_ | with_reducible refine block_ret ?_)
 refine ret1 (fn := Try.f29) rfl st11.defers e2 ?_
 exact ⟨congrArg _ (congrArg _ (by exact (apartR_yes q1 (by omega)).symm)), st11.ext0⟩

set_option maxRecDepth 100000 in
theorem grown_c (n : Int) (v : Value) (xs : List (Int × Int × ByteArray)) (w : World) (hS : SlT EditE w v xs) (hbig : xs.length ≤ 1000000000) : Calls Try.prog 26 #[(.int .i64 (n)), v] w (fun e w' => e = .returned (.int .i64 (grownW n xs)) ∧ Ext none' w w') := by
 refine enter (n := 24) Try.func26 rfl rfl (Nat.le_of_ble_eq_true rfl) ?_
 intro a0 τ0 ha st0
 have e0 : get a0 0 = (.int .i64 (n)) := ha 0 _ rfl
 have e1 : get a0 1 = v := ha 1 _ rfl
 clear ha
 have hle := hS.le
 refine wp_seq ?_
 refine region_St (bf := [0]) (sp := [det _ 4 _]) [] mixed st0 (by kernel_rfl) trivial
  ⟨Ob.d fun c => r_assign rfl rfl, trivial⟩ ?_
 intro a1 w1 τ1 st1 f1
 obtain ⟨e0, e1, -⟩ := f1.ks [(0, _), (1, _)] ⟨e0, e1, trivial⟩
 have e4 : get a1 4 = (.int .i64 (0)) := f1.v 0 rfl
 clear f1
 show Code.wp _ _ _ a1 w1
 refine wp_seq ?_
 refine wp_seq ?_
 refine region_St (bf := [0, 1, 0]) (sp := [det _ 7 _, det _ 8 _, det _ 9 _]) [] mixed st1 (by kernel_rfl) trivial
  ⟨Ob.d fun c => r_move rfl (c.p e1),
  Ob.d fun c => r_len rfl Try.underlying22 (c.n 0 rfl) hS.sl,
  Ob.d fun c => r_move rfl rfl, trivial⟩ ?_
 intro a2 w2 τ2 st2 f2
 obtain ⟨e0, e4, -⟩ := f2.ks [(0, _), (4, _)] ⟨e0, e4, trivial⟩
 have e7 : get a2 7 = v := f2.v 0 rfl
 have e8 : get a2 8 = (.int .i64 ((xs.length : Int))) := f2.v 1 rfl
 have e9 : get a2 9 = (.int .i64 (0)) := f2.v 2 rfl
 clear f2
 show Code.wp _ _ _ a2 w2
 refine wp_block ?_
 refine wp_loop (fun a_ w_ => ∃ (k : Nat) (τ : Nat → Foot), (k ≤ xs.length) ∧
      St (Nw w) w 24 a_ w_ τ ∧
      get a_ 0 = (.int .i64 (grownW n (xs.take k))) ∧
      get a_ 9 = (.int .i64 ((k : Int))) ∧
      get a_ 4 = (.int .i64 (0)) ∧
      get a_ 7 = v ∧
      get a_ 8 = (.int .i64 ((xs.length : Int)))) (fun a_ _ => xs.length - (intOf (get a_ 9)).toNat) ?_ ?_
 · refine ⟨0, τ2, ?_, st2, (e0.trans (int_eq (by first | omega | rfl | exact grownW_succ (by omega)))), (e9.trans (int_eq (by first | omega | rfl | exact grownW_succ (by omega)))), e4, e7, e8⟩
   · omega
 intro a3 w3 hI
 obtain ⟨k, τ3, q0, st3, e0, e9, e4, e7, e8⟩ := hI
 have m9 := e9
 refine wp_seq ?_
 refine region_St (bf := [0]) (sp := [det _ 10 _]) [] mixed st3 (by kernel_rfl) trivial
  ⟨Ob.d fun c => r_lss rfl (c.p e9) (c.p e8), trivial⟩ ?_
 intro a4 w4 τ4 st4 f4
 obtain ⟨e0, e4, e7, e8, e9, -⟩ := f4.ks [(0, _), (4, _), (7, _), (8, _), (9, _)] ⟨e0, e4, e7, e8, e9, trivial⟩
 have e10 : get a4 10 = (.bool (decide ((k : Int) < (xs.length : Int)))) := f4.v 0 rfl
 clear f4
 show Code.wp _ _ _ a4 w4
 refine wp_seq ?_
 refine wp_cond_split (t := decide ((k : Int) < (xs.length : Int))) e10 (fun hc1 => ?_) (fun hc1 => ?_)
 · try simp only [decide_eq_true_eq] at hc1
   refine wp_skip ?_
   show Code.wp _ _ _ a4 w4
   refine wp_seq ?_
   refine wp_block ?_
   refine wp_seq ?_
   refine region_St (bf := [0, 1, 0, 7]) (sp := [det _ 11 _, det _ 12 _, box _ _ 0 6 [(.int .i64 (0)), (.int .i64 (0)), (.string ((⟨#[]⟩ : ByteArray)))], box _ _ 0 6 [(.int .i64 ((nth xs ((k : Int))).1)), (.int .i64 ((nth xs ((k : Int))).2.1)), (.string ((nth xs ((k : Int))).2.2))]]) [] mixed st4 (by kernel_rfl) trivial
    ⟨Ob.d fun c => r_indexAddr rfl Try.underlying22 Try.sizeOf45 (c.p e7) hS.sl (c.p e9) (by first | omega | (simp only [List.length_map]; omega)) (by first | omega | (simp only [List.length_map]; omega)),
    Ob.d fun c => r_loadN (vs := [(.int .i64 ((nth xs ((k : Int))).1)), (.int .i64 ((nth xs ((k : Int))).2.1)), (.string ((nth xs ((k : Int))).2.2))]) rfl Try.isAgg45 Try.sizeOf45 (c.n 0 rfl) rfl (fun _ _ hj => ((hS.at (st4.ext.trans c.J.ext))).elem (nth_some (i := (k : Int)) (by first | omega | (simp only [List.length_map]; omega)) (by first | omega | (simp only [List.length_map]; omega))) hj),
    Ob.alloc rfl rfl rfl rfl Try.zeroValue45 rfl,
    Ob.storeBox (off := 0) (v := (.agg #[(.int .i64 ((nth xs ((k : Int))).1)), (.int .i64 ((nth xs ((k : Int))).2.1)), (.string ((nth xs ((k : Int))).2.2))])) rfl rfl rfl rfl Try.sizeOf45 (Nat.le_of_ble_eq_true rfl) (by simp [Value.cells, Value.oneCell']) rfl (fun _ _ _ _ c => ⟨c.rb 2 rfl, (c.rb 2 rfl).ptr, (c.n 1 rfl)⟩), trivial⟩ ?_
   intro a5 w5 τ5 st5 f5
   obtain ⟨b5x6, e6⟩ : ∃ b, get a5 6 = b := ⟨_, rfl⟩
   obtain ⟨e0, e4, e7, e8, e9, e10, -⟩ := f5.ks [(0, _), (4, _), (7, _), (8, _), (9, _), (10, _)] ⟨e0, e4, e7, e8, e9, e10, trivial⟩
   have r0 : boxR 45 [(.int .i64 ((nth xs ((k : Int))).1)), (.int .i64 ((nth xs ((k : Int))).2.1)), (.string ((nth xs ((k : Int))).2.2))] (τ5 0) b5x6 w5 := f5.rb 3 e6 rfl
   clear f5
   show Code.wp _ _ _ a5 w5
   refine region_St (bf := [0, 0, 2, 6, 0, 16, 48, 126, 255, 511]) (sp := [det _ 13 _, det _ 14 _, det _ 15 _, det _ 16 _, det _ 17 _, det _ 18 _, det _ 19 _, det _ 20 _, det _ 21 _, det _ 0 _]) [ib r0] mixed st5 (by kernel_rfl) ⟨r0, trivial⟩
    ⟨Ob.d fun c => r_move rfl (c.p e0),
    Ob.d fun c => r_fieldAddr rfl Try.underlying45 rfl rfl Try.sizeOf9 ((c.p e6).trans r0.ptr),
    Ob.d fun c => r_load1 rfl Try.isAgg9 (c.n 1 rfl) ((c.ib 0 rfl).cell (j := 2) rfl),
    Ob.d fun c => r_lenS rfl Try.underlying9 (c.n 2 rfl),
    Ob.d fun c => r_fieldAddr rfl Try.underlying45 rfl rfl Try.sizeOf43 ((c.p e6).trans r0.ptr),
    Ob.d fun c => r_loadN (vs := [(.int .i64 ((nth xs ((k : Int))).1)), (.int .i64 ((nth xs ((k : Int))).2.1))]) rfl Try.isAgg43 Try.sizeOf43 (c.n 4 rfl) rfl (fun j_ _ hj => by rw [add_add]; exact (c.ib 0 rfl).cell (j := 0 + j_) (part_cells (l := [(.int .i64 ((nth xs ((k : Int))).1)), (.int .i64 ((nth xs ((k : Int))).2.1)), (.string ((nth xs ((k : Int))).2.2))]) (o := 0) (n := 2) rfl hj)),
    Ob.c fun c => ⟨_, _, (e_call1 rfl rfl Try.call30 (c.n 5 rfl)), len_c ((nth xs ((k : Int))).1, (nth xs ((k : Int))).2.1) _⟩,
    Ob.d fun c => r_subW rfl (c.n 3 rfl) (c.n 6 rfl),
    Ob.d fun c => r_addW rfl (c.n 0 rfl) (c.n 7 rfl),
    Ob.d fun c => r_assign rfl (c.n 8 rfl), trivial⟩ ?_
   intro a6 w6 τ6 st6 f6
   obtain ⟨e4, e6, e7, e8, e9, e10, -⟩ := f6.ks [(4, _), (6, _), (7, _), (8, _), (9, _), (10, _)] ⟨e4, e6, e7, e8, e9, e10, trivial⟩
   have e0 : get a6 0 = (.int .i64 (IntKind.i64.wrap (grownW n (xs.take k) + (IntKind.i64.wrap ((((nth xs ((k : Int))).2.2).size : Int) - (lenW ((nth xs ((k : Int))).1, (nth xs ((k : Int))).2.1))))))) := f6.v 9 rfl
   replace r0 := f6.ib 0 rfl
   clear f6
   show _
   show Code.wp _ _ _ a6 w6
   refine region_St (bf := [0, 1]) (sp := [det _ 22 _, det _ 9 _]) [ib r0] mixed st6 (by kernel_rfl) ⟨r0, trivial⟩
    ⟨Ob.d fun c => r_add rfl (c.p e9) rfl (by first | omega | (simp only [List.length_map]; omega)),
    Ob.d fun c => r_move rfl (c.n 0 rfl), trivial⟩ ?_
   intro a7 w7 τ7 st7 f7
   obtain ⟨e0, e4, e6, e7, e8, e10, -⟩ := f7.ks [(0, _), (4, _), (6, _), (7, _), (8, _), (10, _)] ⟨e0, e4, e6, e7, e8, e10, trivial⟩
   have e9 : get a7 9 = (.int .i64 ((k : Int) + 1)) := f7.v 1 rfl
   replace r0 := f7.ib 0 rfl
   clear f7
   refine ⟨⟨k + 1, τ7, ?_, st7, (e0.trans (int_eq (by first | omega | rfl | exact grownW_succ (by omega)))), (e9.trans (int_eq (by first | omega | rfl | exact grownW_succ (by omega)))), e4, e7, e8⟩, ?_⟩
   · omega
   · simp only [m9, e9, intOf]; omega
 try simp only [decide_eq_false_iff_not, Int.not_lt] at hc1
 refine wp_exit ?_
 repeat (with_reducible refine then_exit ?_)
 refine exit_here ?_
 show Code.wp _ _ _ a4 w4
 refine wp_seq ?_
 refine region_St (bf := [0, 1]) (sp := [det _ 23 _, det _ 4 _]) [] mixed st4 (by kernel_rfl) trivial
  ⟨Ob.d fun c => r_move rfl (c.p e0),
  Ob.d fun c => r_assign rfl (c.n 0 rfl), trivial⟩ ?_
 intro a8 w8 τ8 st8 f8
 have e4 : get a8 4 = (.int .i64 (grownW n (xs.take k))) := f8.v 1 rfl
 clear f8
 show Code.wp _ _ _ a8 w8
 refine wp_ret ?_
 repeat (first | with_reducible refine then_ret ?_ | with_reducible refine block_ret ?_)
 refine ret1 (fn := Try.f26) rfl st8.defers e4 ?_
 exact ⟨congrArg _ (int_eq (by rw [List.take_of_length_le (by omega)])), st8.ext0⟩

set_option maxRecDepth 100000 in
theorem refGrown_c (n : Int) (v : Value) (xs : List (Int × Int × ByteArray)) (w : World) (hS : SlT EditE w v xs) (hbig : xs.length ≤ 1000000000) : Calls Try.prog 36 #[(.int .i64 (n)), v] w (fun e w' => e = .returned (.int .i64 (grownW n xs)) ∧ Ext none' w w') := by
 refine enter (n := 35) Try.func36 rfl rfl (Nat.le_of_ble_eq_true rfl) ?_
 intro a0 τ0 ha st0
 have e0 : get a0 0 = (.int .i64 (n)) := ha 0 _ rfl
 have e1 : get a0 1 = v := ha 1 _ rfl
 clear ha
 have hle := hS.le
 refine wp_seq ?_
 refine region_St (bf := [0]) (sp := [det _ 4 _]) [] mixed st0 (by kernel_rfl) trivial
  ⟨Ob.d fun c => r_assign rfl rfl, trivial⟩ ?_
 intro a1 w1 τ1 st1 f1
 obtain ⟨e0, e1, -⟩ := f1.ks [(0, _), (1, _)] ⟨e0, e1, trivial⟩
 have e4 : get a1 4 = (.int .i64 (0)) := f1.v 0 rfl
 clear f1
 show Code.wp _ _ _ a1 w1
 refine wp_seq ?_
 refine wp_seq ?_
 refine region_St (bf := [0]) (sp := [det _ 5 _]) [] mixed st1 (by kernel_rfl) trivial
  ⟨Ob.d fun c => r_assign rfl rfl, trivial⟩ ?_
 intro a2 w2 τ2 st2 f2
 obtain ⟨e0, e1, e4, -⟩ := f2.ks [(0, _), (1, _), (4, _)] ⟨e0, e1, e4, trivial⟩
 have e5 : get a2 5 = (.int .i64 (0)) := f2.v 0 rfl
 clear f2
 show Code.wp _ _ _ a2 w2
 refine wp_block ?_
 refine wp_loop (fun a_ w_ => ∃ (k : Nat) (τ : Nat → Foot), (k ≤ xs.length) ∧
      St (Nw w) w 35 a_ w_ τ ∧
      get a_ 0 = (.int .i64 (grownW n (xs.take k))) ∧
      get a_ 5 = (.int .i64 ((k : Int))) ∧
      get a_ 1 = v ∧
      get a_ 4 = (.int .i64 (0))) (fun a_ _ => xs.length - (intOf (get a_ 5)).toNat) ?_ ?_
 · refine ⟨0, τ2, ?_, st2, (e0.trans (int_eq (by first | omega | rfl | exact grownR_succ (by omega)))), (e5.trans (int_eq (by first | omega | rfl | exact grownR_succ (by omega)))), e1, e4⟩
   · omega
 intro a3 w3 hI
 obtain ⟨k, τ3, q0, st3, e0, e5, e1, e4⟩ := hI
 have m5 := e5
 refine wp_seq ?_
 refine wp_seq ?_
 refine region_St (bf := [0, 0, 2, 7]) (sp := [det _ 6 _, det _ 7 _, det _ 8 _, det _ 9 _]) [] mixed st3 (by kernel_rfl) trivial
  ⟨Ob.d fun c => r_move rfl (c.p e5),
  Ob.d fun c => r_move rfl (c.p e1),
  Ob.d fun c => r_len rfl Try.underlying22 (c.n 1 rfl) hS.sl,
  Ob.d fun c => r_lss rfl (c.n 0 rfl) (c.n 2 rfl), trivial⟩ ?_
 intro a4 w4 τ4 st4 f4
 obtain ⟨e0, e1, e4, e5, -⟩ := f4.ks [(0, _), (1, _), (4, _), (5, _)] ⟨e0, e1, e4, e5, trivial⟩
 have e9 : get a4 9 = (.bool (decide ((k : Int) < (xs.length : Int)))) := f4.v 3 rfl
 clear f4
 show Code.wp _ _ _ a4 w4
 refine wp_cond_split (t := decide ((k : Int) < (xs.length : Int))) e9 (fun hc1 => ?_) (fun hc1 => ?_)
 · try simp only [decide_eq_true_eq] at hc1
   refine wp_skip ?_
   show Code.wp _ _ _ a4 w4
   refine wp_seq ?_
   refine wp_block ?_
   refine region_St (bf := [0, 0, 0, 6, 14, 30, 62, 127, 0, 0, 768, 1792, 3840, 7936, 0, 0, 49152, 114688, 245760, 507904, 1048320, 2097151, 4194303]) (sp := [det _ 12 _, det _ 13 _, det _ 14 _, det _ 15 _, det _ 16 _, det _ 17 _, det _ 18 _, det _ 19 _, det _ 20 _, det _ 21 _, det _ 22 _, det _ 23 _, det _ 24 _, det _ 25 _, det _ 26 _, det _ 27 _, det _ 28 _, det _ 29 _, det _ 30 _, det _ 31 _, det _ 32 _, det _ 33 _, det _ 0 _]) [] mixed st4 (by kernel_rfl) trivial
    ⟨Ob.d fun c => r_move rfl (c.p e0),
    Ob.d fun c => r_move rfl (c.p e1),
    Ob.d fun c => r_move rfl (c.p e5),
    Ob.d fun c => r_indexAddr rfl Try.underlying22 Try.sizeOf45 (c.n 1 rfl) hS.sl (c.n 2 rfl) (by first | omega | (simp only [List.length_map]; omega)) (by first | omega | (simp only [List.length_map]; omega)),
    Ob.d fun c => r_fieldAddr rfl Try.underlying45 rfl rfl Try.sizeOf9 (c.n 3 rfl),
    Ob.d fun c => r_load1 rfl Try.isAgg9 (c.n 4 rfl) (((hS.at (st4.ext.trans c.J.ext))).elem (j := 2) (nth_some (i := (k : Int)) (by first | omega | (simp only [List.length_map]; omega)) (by first | omega | (simp only [List.length_map]; omega))) rfl),
    Ob.d fun c => r_lenS rfl Try.underlying9 (c.n 5 rfl),
    Ob.d fun c => r_addW rfl (c.n 0 rfl) (c.n 6 rfl),
    Ob.d fun c => r_move rfl (c.p e1),
    Ob.d fun c => r_move rfl (c.p e5),
    Ob.d fun c => r_indexAddr rfl Try.underlying22 Try.sizeOf45 (c.n 8 rfl) hS.sl (c.n 9 rfl) (by first | omega | (simp only [List.length_map]; omega)) (by first | omega | (simp only [List.length_map]; omega)),
    Ob.d fun c => r_fieldAddr rfl Try.underlying45 rfl rfl Try.sizeOf43 (c.n 10 rfl),
    Ob.d fun c => r_fieldAddr rfl Try.underlying43 rfl rfl Try.sizeOf3 (c.n 11 rfl),
    Ob.d fun c => r_load1 rfl Try.isAgg3 (c.n 12 rfl) (by have h_ := ((hS.at (st4.ext.trans c.J.ext))).elem (j := 1) (nth_some (i := (k : Int)) (by first | omega | (simp only [List.length_map]; omega)) (by first | omega | (simp only [List.length_map]; omega))) rfl; rw [add_add] at h_; rw [add_add, add_add]; exact h_),
    Ob.d fun c => r_move rfl (c.p e1),
    Ob.d fun c => r_move rfl (c.p e5),
    Ob.d fun c => r_indexAddr rfl Try.underlying22 Try.sizeOf45 (c.n 14 rfl) hS.sl (c.n 15 rfl) (by first | omega | (simp only [List.length_map]; omega)) (by first | omega | (simp only [List.length_map]; omega)),
    Ob.d fun c => r_fieldAddr rfl Try.underlying45 rfl rfl Try.sizeOf43 (c.n 16 rfl),
    Ob.d fun c => r_fieldAddr rfl Try.underlying43 rfl rfl Try.sizeOf3 (c.n 17 rfl),
    Ob.d fun c => r_load1 rfl Try.isAgg3 (c.n 18 rfl) (by have h_ := ((hS.at (st4.ext.trans c.J.ext))).elem (j := 0) (nth_some (i := (k : Int)) (by first | omega | (simp only [List.length_map]; omega)) (by first | omega | (simp only [List.length_map]; omega))) rfl; rw [add_add] at h_; rw [add_add, add_add]; exact h_),
    Ob.d fun c => r_subW rfl (c.n 13 rfl) (c.n 19 rfl),
    Ob.d fun c => r_subW rfl (c.n 7 rfl) (c.n 20 rfl),
    Ob.d fun c => r_assign rfl (c.n 21 rfl), trivial⟩ ?_
   intro a5 w5 τ5 st5 f5
   obtain ⟨e1, e4, e5, e9, -⟩ := f5.ks [(1, _), (4, _), (5, _), (9, _)] ⟨e1, e4, e5, e9, trivial⟩
   have e0 : get a5 0 = (.int .i64 (IntKind.i64.wrap (IntKind.i64.wrap (grownW n (xs.take k) + (((nth xs ((k : Int))).2.2).size : Int)) - (IntKind.i64.wrap ((nth xs ((k : Int))).2.1 - ((nth xs ((k : Int))).1)))))) := f5.v 22 rfl
   clear f5
   show _
   show Code.wp _ _ _ a5 w5
   refine region_St (bf := [0, 1, 3]) (sp := [det _ 10 _, det _ 11 _, det _ 5 _]) [] mixed st5 (by kernel_rfl) trivial
    ⟨Ob.d fun c => r_move rfl (c.p e5),
    Ob.d fun c => r_add rfl (c.n 0 rfl) rfl (by first | omega | (simp only [List.length_map]; omega)),
    Ob.d fun c => r_assign rfl (c.n 1 rfl), trivial⟩ ?_
   intro a6 w6 τ6 st6 f6
   obtain ⟨e0, e1, e4, e9, -⟩ := f6.ks [(0, _), (1, _), (4, _), (9, _)] ⟨e0, e1, e4, e9, trivial⟩
   have e5 : get a6 5 = (.int .i64 ((k : Int) + 1)) := f6.v 2 rfl
   clear f6
   refine ⟨⟨k + 1, τ6, ?_, st6, (e0.trans (int_eq (by first | omega | rfl | exact grownR_succ (by omega)))), (e5.trans (int_eq (by first | omega | rfl | exact grownR_succ (by omega)))), e1, e4⟩, ?_⟩
   · omega
   · simp only [m5, e5, intOf]; omega
 try simp only [decide_eq_false_iff_not, Int.not_lt] at hc1
 refine wp_exit ?_
 repeat (with_reducible refine then_exit ?_)
 refine exit_here ?_
 show Code.wp _ _ _ a4 w4
 refine wp_seq ?_
 refine region_St (bf := [0, 1]) (sp := [det _ 34 _, det _ 4 _]) [] mixed st4 (by kernel_rfl) trivial
  ⟨Ob.d fun c => r_move rfl (c.p e0),
  Ob.d fun c => r_assign rfl (c.n 0 rfl), trivial⟩ ?_
 intro a7 w7 τ7 st7 f7
 have e4 : get a7 4 = (.int .i64 (grownW n (xs.take k))) := f7.v 1 rfl
 clear f7
 show Code.wp _ _ _ a7 w7
 refine wp_ret ?_
 repeat (first | with_reducible refine then_ret ?_ | with_reducible refine block_ret ?_)
 refine ret1 (fn := Try.f36) rfl st7.defers e4 ?_
 exact ⟨congrArg _ (int_eq (by rw [List.take_of_length_le (by omega)])), st7.ext0⟩

set_option maxRecDepth 100000 in
theorem mayE_c (n : Int) (v : Value) (xs : List (Int × Int × ByteArray)) (w : World) (hS : SlT EditE w v xs) (hbig : xs.length ≤ 1000000000) : Calls Try.prog 19 #[(.int .i64 (n)), v] w (fun e w' => e = .returned (.int .i64 (mayEd n xs)) ∧ Ext none' w w') := by
 refine enter (n := 27) Try.func19 rfl rfl (Nat.le_of_ble_eq_true rfl) ?_
 intro a0 τ0 ha st0
 have e0 : get a0 0 = (.int .i64 (n)) := ha 0 _ rfl
 have e1 : get a0 1 = v := ha 1 _ rfl
 clear ha
 have hle := hS.le
 refine wp_seq ?_
 refine region_St (bf := [0]) (sp := [det _ 4 _]) [] mixed st0 (by kernel_rfl) trivial
  ⟨Ob.d fun c => r_assign rfl rfl, trivial⟩ ?_
 intro a1 w1 τ1 st1 f1
 obtain ⟨e0, e1, -⟩ := f1.ks [(0, _), (1, _)] ⟨e0, e1, trivial⟩
 have e4 : get a1 4 = (.int .i64 (0)) := f1.v 0 rfl
 clear f1
 show Code.wp _ _ _ a1 w1
 refine wp_seq ?_
 refine wp_seq ?_
 refine region_St (bf := [0, 1, 0]) (sp := [det _ 7 _, det _ 8 _, det _ 9 _]) [] mixed st1 (by kernel_rfl) trivial
  ⟨Ob.d fun c => r_move rfl (c.p e1),
  Ob.d fun c => r_len rfl Try.underlying22 (c.n 0 rfl) hS.sl,
  Ob.d fun c => r_move rfl rfl, trivial⟩ ?_
 intro a2 w2 τ2 st2 f2
 obtain ⟨e0, e1, e4, -⟩ := f2.ks [(0, _), (1, _), (4, _)] ⟨e0, e1, e4, trivial⟩
 have e7 : get a2 7 = v := f2.v 0 rfl
 have e8 : get a2 8 = (.int .i64 ((xs.length : Int))) := f2.v 1 rfl
 have e9 : get a2 9 = (.int .i64 (0)) := f2.v 2 rfl
 clear f2
 show Code.wp _ _ _ a2 w2
 refine wp_block ?_
 refine wp_loop (fun a_ w_ => ∃ (k : Nat) (τ : Nat → Foot), (k ≤ xs.length) ∧
      (∀ i < k, (!mayB (sp (nth xs ((i : Nat) : Int))) n) = false) ∧
      St (Nw w) w 27 a_ w_ τ ∧
      get a_ 9 = (.int .i64 ((k : Int))) ∧
      get a_ 0 = (.int .i64 (n)) ∧
      get a_ 1 = v ∧
      get a_ 7 = v ∧
      get a_ 8 = (.int .i64 ((xs.length : Int)))) (fun a_ _ => xs.length - (intOf (get a_ 9)).toNat) ?_ ?_
 · refine ⟨0, τ2, ?_, ?_, st2, (e9.trans (int_eq (by omega))), e0, e1, e7, e8⟩
   · omega
   · intro i hi; omega
 intro a3 w3 hI
 obtain ⟨k, τ3, q0, q1, st3, e9, e0, e1, e7, e8⟩ := hI
 have m9 := e9
 refine wp_seq ?_
 refine region_St (bf := [0]) (sp := [det _ 10 _]) [] mixed st3 (by kernel_rfl) trivial
  ⟨Ob.d fun c => r_lss rfl (c.p e9) (c.p e8), trivial⟩ ?_
 intro a4 w4 τ4 st4 f4
 obtain ⟨e0, e1, e7, e8, e9, -⟩ := f4.ks [(0, _), (1, _), (7, _), (8, _), (9, _)] ⟨e0, e1, e7, e8, e9, trivial⟩
 have e10 : get a4 10 = (.bool (decide ((k : Int) < (xs.length : Int)))) := f4.v 0 rfl
 clear f4
 show Code.wp _ _ _ a4 w4
 refine wp_seq ?_
 refine wp_cond_split (t := decide ((k : Int) < (xs.length : Int))) e10 (fun hc1 => ?_) (fun hc1 => ?_)
 · try simp only [decide_eq_true_eq] at hc1
   refine wp_skip ?_
   show Code.wp _ _ _ a4 w4
   refine wp_seq ?_
   refine wp_block ?_
   refine wp_seq ?_
   refine region_St (bf := [0, 1, 0, 7]) (sp := [det _ 11 _, det _ 12 _, box _ _ 0 6 [(.int .i64 (0)), (.int .i64 (0)), (.string ((⟨#[]⟩ : ByteArray)))], box _ _ 0 6 [(.int .i64 ((nth xs ((k : Int))).1)), (.int .i64 ((nth xs ((k : Int))).2.1)), (.string ((nth xs ((k : Int))).2.2))]]) [] mixed st4 (by kernel_rfl) trivial
    ⟨Ob.d fun c => r_indexAddr rfl Try.underlying22 Try.sizeOf45 (c.p e7) hS.sl (c.p e9) (by first | omega | (simp only [List.length_map]; omega)) (by first | omega | (simp only [List.length_map]; omega)),
    Ob.d fun c => r_loadN (vs := [(.int .i64 ((nth xs ((k : Int))).1)), (.int .i64 ((nth xs ((k : Int))).2.1)), (.string ((nth xs ((k : Int))).2.2))]) rfl Try.isAgg45 Try.sizeOf45 (c.n 0 rfl) rfl (fun _ _ hj => ((hS.at (st4.ext.trans c.J.ext))).elem (nth_some (i := (k : Int)) (by first | omega | (simp only [List.length_map]; omega)) (by first | omega | (simp only [List.length_map]; omega))) hj),
    Ob.alloc rfl rfl rfl rfl Try.zeroValue45 rfl,
    Ob.storeBox (off := 0) (v := (.agg #[(.int .i64 ((nth xs ((k : Int))).1)), (.int .i64 ((nth xs ((k : Int))).2.1)), (.string ((nth xs ((k : Int))).2.2))])) rfl rfl rfl rfl Try.sizeOf45 (Nat.le_of_ble_eq_true rfl) (by simp [Value.cells, Value.oneCell']) rfl (fun _ _ _ _ c => ⟨c.rb 2 rfl, (c.rb 2 rfl).ptr, (c.n 1 rfl)⟩), trivial⟩ ?_
   intro a5 w5 τ5 st5 f5
   obtain ⟨b5x6, e6⟩ : ∃ b, get a5 6 = b := ⟨_, rfl⟩
   obtain ⟨e0, e1, e7, e8, e9, e10, -⟩ := f5.ks [(0, _), (1, _), (7, _), (8, _), (9, _), (10, _)] ⟨e0, e1, e7, e8, e9, e10, trivial⟩
   have r0 : boxR 45 [(.int .i64 ((nth xs ((k : Int))).1)), (.int .i64 ((nth xs ((k : Int))).2.1)), (.string ((nth xs ((k : Int))).2.2))] (τ5 0) b5x6 w5 := f5.rb 3 e6 rfl
   clear f5
   show Code.wp _ _ _ a5 w5
   refine wp_seq ?_
   refine region_St (bf := [0, 1, 0, 7, 15]) (sp := [det _ 13 _, det _ 14 _, det _ 15 _, det _ 16 _, det _ 17 _]) [ib r0] mixed st5 (by kernel_rfl) ⟨r0, trivial⟩
    ⟨Ob.d fun c => r_fieldAddr rfl Try.underlying45 rfl rfl Try.sizeOf43 ((c.p e6).trans r0.ptr),
    Ob.d fun c => r_loadN (vs := [(.int .i64 ((nth xs ((k : Int))).1)), (.int .i64 ((nth xs ((k : Int))).2.1))]) rfl Try.isAgg43 Try.sizeOf43 (c.n 0 rfl) rfl (fun j_ _ hj => by rw [add_add]; exact (c.ib 0 rfl).cell (j := 0 + j_) (part_cells (l := [(.int .i64 ((nth xs ((k : Int))).1)), (.int .i64 ((nth xs ((k : Int))).2.1)), (.string ((nth xs ((k : Int))).2.2))]) (o := 0) (n := 2) rfl hj)),
    Ob.d fun c => r_move rfl (c.p e0),
    Ob.c fun c => ⟨_, _, (e_call2 rfl rfl Try.call32 (c.n 1 rfl) (c.n 2 rfl)), may_c ((nth xs ((k : Int))).1, (nth xs ((k : Int))).2.1) n _⟩,
    Ob.d fun c => r_not rfl (c.n 3 rfl), trivial⟩ ?_
   intro a6 w6 τ6 st6 f6
   obtain ⟨e0, e1, e6, e7, e8, e9, e10, -⟩ := f6.ks [(0, _), (1, _), (6, _), (7, _), (8, _), (9, _), (10, _)] ⟨e0, e1, e6, e7, e8, e9, e10, trivial⟩
   have e17 : get a6 17 = (.bool (!(mayB ((nth xs ((k : Int))).1, (nth xs ((k : Int))).2.1) n))) := f6.v 4 rfl
   replace r0 := f6.ib 0 rfl
   clear f6
   show Code.wp _ _ _ a6 w6
   refine wp_cond_split (t := !(mayB ((nth xs ((k : Int))).1, (nth xs ((k : Int))).2.1) n)) e17 (fun hc2 => ?_) (fun hc2 => ?_)
   · have hd2 := hc2; try simp only [Bool.not_eq_true', Bool.not_eq_false'] at hd2
     refine wp_seq ?_
     refine region_St (bf := [0]) (sp := [det _ 4 _]) [ib r0] mixed st6 (by kernel_rfl) ⟨r0, trivial⟩
      ⟨Ob.d fun c => r_assign rfl rfl, trivial⟩ ?_
     intro a7 w7 τ7 st7 f7
     obtain ⟨e0, e1, e6, e7, e8, e9, e10, e17, -⟩ := f7.ks [(0, _), (1, _), (6, _), (7, _), (8, _), (9, _), (10, _), (17, _)] ⟨e0, e1, e6, e7, e8, e9, e10, e17, trivial⟩
     have e4 : get a7 4 = (.int .i64 (3)) := f7.v 0 rfl
     replace r0 := f7.ib 0 rfl
     clear f7
     show Code.wp _ _ _ a7 w7
     refine wp_ret ?_
     repeat (first | with_reducible refine then_ret ?_ | with_reducible refine block_ret ?_)
     refine ret1 (fn := Try.f19) rfl st7.defers e4 ?_
     exact ⟨congrArg _ (int_eq (by symm; exact mayEd_3 (k := k) (by omega) (by assumption))), st7.ext0⟩
   have hd2 := hc2; try simp only [Bool.not_eq_true', Bool.not_eq_false'] at hd2
   refine wp_skip ?_
   show _
   show Code.wp _ _ _ a6 w6
   refine region_St (bf := [0, 1]) (sp := [det _ 18 _, det _ 9 _]) [ib r0] mixed st6 (by kernel_rfl) ⟨r0, trivial⟩
    ⟨Ob.d fun c => r_add rfl (c.p e9) rfl (by first | omega | (simp only [List.length_map]; omega)),
    Ob.d fun c => r_move rfl (c.n 0 rfl), trivial⟩ ?_
   intro a8 w8 τ8 st8 f8
   obtain ⟨e0, e1, e6, e7, e8, e10, e17, -⟩ := f8.ks [(0, _), (1, _), (6, _), (7, _), (8, _), (10, _), (17, _)] ⟨e0, e1, e6, e7, e8, e10, e17, trivial⟩
   have e9 : get a8 9 = (.int .i64 ((k : Int) + 1)) := f8.v 1 rfl
   replace r0 := f8.ib 0 rfl
   clear f8
   refine ⟨⟨k + 1, τ8, ?_, ?_, st8, (e9.trans (int_eq (by omega))), e0, e1, e7, e8⟩, ?_⟩
   · omega
   · exact upto_succ (f := fun i => (!mayB (sp (nth xs i)) n)) q1 (by assumption)
   · simp only [m9, e9, intOf]; omega
 try simp only [decide_eq_false_iff_not, Int.not_lt] at hc1
 refine wp_exit ?_
 repeat (with_reducible refine then_exit ?_)
 refine exit_here ?_
 show Code.wp _ _ _ a4 w4
 refine wp_seq ?_
 refine wp_seq ?_
 refine region_St (bf := [0, 1, 3, 7]) (sp := [det _ 19 _, own _ _ _ 0 20 _, det _ 21 _, det _ 22 _]) [] mixed st4 (by kernel_rfl) trivial
  ⟨Ob.d fun c => r_move rfl (c.p e1),
  Ob.callOwn rfl rfl rfl (fun _ a_ _ _ c => ⟨_, _, (e_call1 rfl rfl Try.call34 (c.n 0 rfl)), spansE_c v xs _ (hS.at (st4.ext.trans c.J.ext)) (by first | omega | (simp only [List.length_map]; omega))⟩),
  Ob.c fun c => ⟨_, _, (e_call1 rfl rfl Try.call33 (eval_tmp _ 20)), apart_c _ (List.map sp xs) _ (c.ro 1 rfl).1.sl (by first | omega | (simp only [List.length_map]; omega))⟩,
  Ob.d fun c => r_not rfl (c.n 2 rfl), trivial⟩ ?_
 intro a9 w9 τ9 st9 f9
 obtain ⟨b9x20, e20⟩ : ∃ b, get a9 20 = b := ⟨_, rfl⟩
 obtain ⟨e0, e1, -⟩ := f9.ks [(0, _), (1, _)] ⟨e0, e1, trivial⟩
 have e22 : get a9 22 = (.bool (!(apartF (isort ltS (List.map sp xs))))) := f9.v 3 rfl
 clear f9
 show Code.wp _ _ _ a9 w9
 refine wp_cond_split (t := !(apartF (isort ltS (List.map sp xs)))) e22 (fun hc3 => ?_) (fun hc3 => ?_)
 · have hd3 := hc3; try simp only [Bool.not_eq_true', Bool.not_eq_false'] at hd3
   refine wp_seq ?_
   refine region_St (bf := [0]) (sp := [det _ 4 _]) [] mixed st9 (by kernel_rfl) trivial
    ⟨Ob.d fun c => r_assign rfl rfl, trivial⟩ ?_
   intro a10 w10 τ10 st10 f10
   obtain ⟨e0, e1, -⟩ := f10.ks [(0, _), (1, _)] ⟨e0, e1, trivial⟩
   have e4 : get a10 4 = (.int .i64 (5)) := f10.v 0 rfl
   clear f10
   show Code.wp _ _ _ a10 w10
   refine wp_ret ?_
   repeat (first | with_reducible refine then_ret ?_ | with_reducible refine block_ret ?_)
   refine ret1 (fn := Try.f19) rfl st10.defers e4 ?_
   exact ⟨congrArg _ (int_eq (by symm; exact mayEd_5 q1 (by omega) (by assumption))), st10.ext0⟩
 have hd3 := hc3; try simp only [Bool.not_eq_true', Bool.not_eq_false'] at hd3
 refine wp_skip ?_
 show Code.wp _ _ _ a9 w9
 refine wp_seq ?_
 refine wp_seq ?_
 refine region_St (bf := [0, 0, 3, 7]) (sp := [det _ 23 _, det _ 24 _, det _ 25 _, det _ 26 _]) [] mixed st9 (by kernel_rfl) trivial
  ⟨Ob.d fun c => r_move rfl (c.p e0),
  Ob.d fun c => r_move rfl (c.p e1),
  Ob.c fun c => ⟨_, _, (e_call2 rfl rfl Try.call26 (c.n 0 rfl) (c.n 1 rfl)), grown_c n v xs _ (hS.at (st9.ext.trans c.J.ext)) (by first | omega | (simp only [List.length_map]; omega))⟩,
  Ob.d fun c => r_gtr rfl (c.n 2 rfl) rfl, trivial⟩ ?_
 intro a11 w11 τ11 st11 f11
 have e26 : get a11 26 = (.bool (decide (65536 < grownW n xs))) := f11.v 3 rfl
 clear f11
 show Code.wp _ _ _ a11 w11
 refine wp_cond_split (t := decide (65536 < grownW n xs)) e26 (fun hc4 => ?_) (fun hc4 => ?_)
 · try simp only [decide_eq_true_eq] at hc4
   refine wp_seq ?_
   refine region_St (bf := [0]) (sp := [det _ 4 _]) [] mixed st11 (by kernel_rfl) trivial
    ⟨Ob.d fun c => r_assign rfl rfl, trivial⟩ ?_
   intro a12 w12 τ12 st12 f12
   have e4 : get a12 4 = (.int .i64 (4)) := f12.v 0 rfl
   clear f12
   show Code.wp _ _ _ a12 w12
   refine wp_ret ?_
   repeat (first | with_reducible refine then_ret ?_ | with_reducible refine block_ret ?_)
   refine ret1 (fn := Try.f19) rfl st12.defers e4 ?_
   exact ⟨congrArg _ (int_eq (by symm; exact mayEd_4 q1 (by omega) (by assumption) (by assumption))), st12.ext0⟩
 try simp only [decide_eq_false_iff_not, Int.not_lt] at hc4
 refine wp_skip ?_
 show Code.wp _ _ _ a11 w11
 refine wp_seq ?_
 refine region_St (bf := [0]) (sp := [det _ 4 _]) [] mixed st11 (by kernel_rfl) trivial
  ⟨Ob.d fun c => r_assign rfl rfl, trivial⟩ ?_
 intro a13 w13 τ13 st13 f13
 have e4 : get a13 4 = (.int .i64 (0)) := f13.v 0 rfl
 clear f13
 show Code.wp _ _ _ a13 w13
 refine wp_ret ?_
 repeat (first | with_reducible refine then_ret ?_ | with_reducible refine block_ret ?_)
 refine ret1 (fn := Try.f19) rfl st13.defers e4 ?_
 exact ⟨congrArg _ (int_eq (by symm; exact mayEd_0 q1 (by omega) (by assumption) (by assumption))), st13.ext0⟩

set_option maxRecDepth 100000 in
theorem ranged_c (n : Int) (v : Value) (xs : List (Int × Int × ByteArray)) (w : World) (hS : SlT EditE w v xs) (hbig : xs.length ≤ 1000000000) : Calls Try.prog 35 #[(.int .i64 (n)), v] w (fun e w' => e = .returned (.int .i64 (rangedF n xs)) ∧ Ext none' w w') := by
 refine enter (n := 24) Try.func35 rfl rfl (Nat.le_of_ble_eq_true rfl) ?_
 intro a0 τ0 ha st0
 have e0 : get a0 0 = (.int .i64 (n)) := ha 0 _ rfl
 have e1 : get a0 1 = v := ha 1 _ rfl
 clear ha
 have hle := hS.le
 refine wp_seq ?_
 refine region_St (bf := [0]) (sp := [det _ 4 _]) [] mixed st0 (by kernel_rfl) trivial
  ⟨Ob.d fun c => r_assign rfl rfl, trivial⟩ ?_
 intro a1 w1 τ1 st1 f1
 obtain ⟨e0, e1, -⟩ := f1.ks [(0, _), (1, _)] ⟨e0, e1, trivial⟩
 have e4 : get a1 4 = (.int .i64 (0)) := f1.v 0 rfl
 clear f1
 show Code.wp _ _ _ a1 w1
 refine wp_seq ?_
 refine wp_seq ?_
 refine region_St (bf := [0]) (sp := [det _ 5 _]) [] mixed st1 (by kernel_rfl) trivial
  ⟨Ob.d fun c => r_assign rfl rfl, trivial⟩ ?_
 intro a2 w2 τ2 st2 f2
 obtain ⟨e0, e1, e4, -⟩ := f2.ks [(0, _), (1, _), (4, _)] ⟨e0, e1, e4, trivial⟩
 have e5 : get a2 5 = (.int .i64 (0)) := f2.v 0 rfl
 clear f2
 show Code.wp _ _ _ a2 w2
 refine wp_block ?_
 refine wp_loop (fun a_ w_ => ∃ (k : Nat) (τ : Nat → Foot), (k ≤ xs.length) ∧
      (∀ i < k, (!mayB (sp (nth xs ((i : Nat) : Int))) n) = false) ∧
      St (Nw w) w 24 a_ w_ τ ∧
      get a_ 5 = (.int .i64 ((k : Int))) ∧
      get a_ 0 = (.int .i64 (n)) ∧
      get a_ 1 = v) (fun a_ _ => xs.length - (intOf (get a_ 5)).toNat) ?_ ?_
 · refine ⟨0, τ2, ?_, ?_, st2, (e5.trans (int_eq (by omega))), e0, e1⟩
   · omega
   · intro i hi; omega
 intro a3 w3 hI
 obtain ⟨k, τ3, q0, q1, st3, e5, e0, e1⟩ := hI
 have m5 := e5
 refine wp_seq ?_
 refine wp_seq ?_
 refine region_St (bf := [0, 0, 2, 7]) (sp := [det _ 6 _, det _ 7 _, det _ 8 _, det _ 9 _]) [] mixed st3 (by kernel_rfl) trivial
  ⟨Ob.d fun c => r_move rfl (c.p e5),
  Ob.d fun c => r_move rfl (c.p e1),
  Ob.d fun c => r_len rfl Try.underlying22 (c.n 1 rfl) hS.sl,
  Ob.d fun c => r_lss rfl (c.n 0 rfl) (c.n 2 rfl), trivial⟩ ?_
 intro a4 w4 τ4 st4 f4
 obtain ⟨e0, e1, e5, -⟩ := f4.ks [(0, _), (1, _), (5, _)] ⟨e0, e1, e5, trivial⟩
 have e9 : get a4 9 = (.bool (decide ((k : Int) < (xs.length : Int)))) := f4.v 3 rfl
 clear f4
 show Code.wp _ _ _ a4 w4
 refine wp_cond_split (t := decide ((k : Int) < (xs.length : Int))) e9 (fun hc1 => ?_) (fun hc1 => ?_)
 · try simp only [decide_eq_true_eq] at hc1
   refine wp_skip ?_
   show Code.wp _ _ _ a4 w4
   refine wp_seq ?_
   refine wp_block ?_
   refine wp_seq ?_
   refine region_St (bf := [0, 0, 3, 7, 15, 0, 63, 127]) (sp := [det _ 12 _, det _ 13 _, det _ 14 _, det _ 15 _, det _ 16 _, det _ 17 _, det _ 18 _, det _ 19 _]) [] mixed st4 (by kernel_rfl) trivial
    ⟨Ob.d fun c => r_move rfl (c.p e1),
    Ob.d fun c => r_move rfl (c.p e5),
    Ob.d fun c => r_indexAddr rfl Try.underlying22 Try.sizeOf45 (c.n 0 rfl) hS.sl (c.n 1 rfl) (by first | omega | (simp only [List.length_map]; omega)) (by first | omega | (simp only [List.length_map]; omega)),
    Ob.d fun c => r_fieldAddr rfl Try.underlying45 rfl rfl Try.sizeOf43 (c.n 2 rfl),
    Ob.d fun c => r_loadN (vs := [(.int .i64 ((nth xs ((k : Int))).1)), (.int .i64 ((nth xs ((k : Int))).2.1))]) rfl Try.isAgg43 Try.sizeOf43 (c.n 3 rfl) rfl (fun j_ u_ hj => by rw [add_add, add_add]; have h_ := ((hS.at (st4.ext.trans c.J.ext))).elem (j := 0 + j_) (nth_some (i := (k : Int)) (by first | omega | (simp only [List.length_map]; omega)) (by first | omega | (simp only [List.length_map]; omega))) (by revert hj; cases j_ with | zero => exact id | succ j_ => cases j_ with | zero => exact id | succ j_ => intro hj; simp at hj); rwa [add_add] at h_),
    Ob.d fun c => r_move rfl (c.p e0),
    Ob.c fun c => ⟨_, _, (e_call2 rfl rfl Try.call48 (c.n 4 rfl) (c.n 5 rfl)), refMay_c ((nth xs ((k : Int))).1, (nth xs ((k : Int))).2.1) n _⟩,
    Ob.d fun c => r_not rfl (c.n 6 rfl), trivial⟩ ?_
   intro a5 w5 τ5 st5 f5
   obtain ⟨e0, e1, e5, e9, -⟩ := f5.ks [(0, _), (1, _), (5, _), (9, _)] ⟨e0, e1, e5, e9, trivial⟩
   have e19 : get a5 19 = (.bool (!(mayB ((nth xs ((k : Int))).1, (nth xs ((k : Int))).2.1) n))) := f5.v 7 rfl
   clear f5
   show Code.wp _ _ _ a5 w5
   refine wp_cond_split (t := !(mayB ((nth xs ((k : Int))).1, (nth xs ((k : Int))).2.1) n)) e19 (fun hc2 => ?_) (fun hc2 => ?_)
   · have hd2 := hc2; try simp only [Bool.not_eq_true', Bool.not_eq_false'] at hd2
     refine wp_seq ?_
     refine region_St (bf := [0]) (sp := [det _ 4 _]) [] mixed st5 (by kernel_rfl) trivial
      ⟨Ob.d fun c => r_assign rfl rfl, trivial⟩ ?_
     intro a6 w6 τ6 st6 f6
     obtain ⟨e0, e1, e5, e9, e19, -⟩ := f6.ks [(0, _), (1, _), (5, _), (9, _), (19, _)] ⟨e0, e1, e5, e9, e19, trivial⟩
     have e4 : get a6 4 = (.int .i64 (3)) := f6.v 0 rfl
     clear f6
     show Code.wp _ _ _ a6 w6
     refine wp_ret ?_
     repeat (first | with_reducible refine then_ret ?_ | with_reducible refine block_ret ?_)
     refine ret1 (fn := Try.f35) rfl st6.defers e4 ?_
     exact ⟨congrArg _ (int_eq (by symm; exact rangedF_3 (k := k) (by omega) (by assumption))), st6.ext0⟩
   have hd2 := hc2; try simp only [Bool.not_eq_true', Bool.not_eq_false'] at hd2
   refine wp_skip ?_
   show _
   show Code.wp _ _ _ a5 w5
   refine region_St (bf := [0, 1, 3]) (sp := [det _ 10 _, det _ 11 _, det _ 5 _]) [] mixed st5 (by kernel_rfl) trivial
    ⟨Ob.d fun c => r_move rfl (c.p e5),
    Ob.d fun c => r_add rfl (c.n 0 rfl) rfl (by first | omega | (simp only [List.length_map]; omega)),
    Ob.d fun c => r_assign rfl (c.n 1 rfl), trivial⟩ ?_
   intro a7 w7 τ7 st7 f7
   obtain ⟨e0, e1, e9, e19, -⟩ := f7.ks [(0, _), (1, _), (9, _), (19, _)] ⟨e0, e1, e9, e19, trivial⟩
   have e5 : get a7 5 = (.int .i64 ((k : Int) + 1)) := f7.v 2 rfl
   clear f7
   refine ⟨⟨k + 1, τ7, ?_, ?_, st7, (e5.trans (int_eq (by omega))), e0, e1⟩, ?_⟩
   · omega
   · exact upto_succ (f := fun i => (!mayB (sp (nth xs i)) n)) q1 (by assumption)
   · simp only [m5, e5, intOf]; omega
 try simp only [decide_eq_false_iff_not, Int.not_lt] at hc1
 refine wp_exit ?_
 repeat (with_reducible refine then_exit ?_)
 refine exit_here ?_
 show Code.wp _ _ _ a4 w4
 refine wp_seq ?_
 refine wp_seq ?_
 refine region_St (bf := [0, 1, 3, 7]) (sp := [det _ 20 _, own _ _ _ 0 21 _, det _ 22 _, det _ 23 _]) [] mixed st4 (by kernel_rfl) trivial
  ⟨Ob.d fun c => r_move rfl (c.p e1),
  Ob.callOwn rfl rfl rfl (fun _ a_ _ _ c => ⟨_, _, (e_call1 rfl rfl Try.call49 (c.n 0 rfl)), refSpansE_c v xs _ (hS.at (st4.ext.trans c.J.ext)) (by first | omega | (simp only [List.length_map]; omega))⟩),
  Ob.c fun c => ⟨_, _, (e_call1 rfl rfl Try.call29 (eval_tmp _ 21)), refApart_c _ (List.map sp xs) _ (c.ro 1 rfl).1.sl (by first | omega | (simp only [List.length_map]; omega))⟩,
  Ob.d fun c => r_not rfl (c.n 2 rfl), trivial⟩ ?_
 intro a8 w8 τ8 st8 f8
 obtain ⟨b8x21, e21⟩ : ∃ b, get a8 21 = b := ⟨_, rfl⟩
 have e23 : get a8 23 = (.bool (!(apartR (isort lessB (List.map sp xs))))) := f8.v 3 rfl
 clear f8
 show Code.wp _ _ _ a8 w8
 refine wp_cond_split (t := !(apartR (isort lessB (List.map sp xs)))) e23 (fun hc3 => ?_) (fun hc3 => ?_)
 · have hd3 := hc3; try simp only [Bool.not_eq_true', Bool.not_eq_false'] at hd3
   refine wp_seq ?_
   refine region_St (bf := [0]) (sp := [det _ 4 _]) [] mixed st8 (by kernel_rfl) trivial
    ⟨Ob.d fun c => r_assign rfl rfl, trivial⟩ ?_
   intro a9 w9 τ9 st9 f9
   have e4 : get a9 4 = (.int .i64 (5)) := f9.v 0 rfl
   clear f9
   show Code.wp _ _ _ a9 w9
   refine wp_ret ?_
   repeat (first | with_reducible refine then_ret ?_ | with_reducible refine block_ret ?_)
   refine ret1 (fn := Try.f35) rfl st9.defers e4 ?_
   exact ⟨congrArg _ (int_eq (by symm; exact rangedF_5 q1 (by omega) (by assumption))), st9.ext0⟩
 have hd3 := hc3; try simp only [Bool.not_eq_true', Bool.not_eq_false'] at hd3
 refine wp_skip ?_
 show Code.wp _ _ _ a8 w8
 refine wp_seq ?_
 refine region_St (bf := [0]) (sp := [det _ 4 _]) [] mixed st8 (by kernel_rfl) trivial
  ⟨Ob.d fun c => r_assign rfl rfl, trivial⟩ ?_
 intro a10 w10 τ10 st10 f10
 have e4 : get a10 4 = (.int .i64 (0)) := f10.v 0 rfl
 clear f10
 show Code.wp _ _ _ a10 w10
 refine wp_ret ?_
 repeat (first | with_reducible refine then_ret ?_ | with_reducible refine block_ret ?_)
 refine ret1 (fn := Try.f35) rfl st10.defers e4 ?_
 exact ⟨congrArg _ (int_eq (by symm; exact rangedF_0 q1 (by omega) (by assumption))), st10.ext0⟩

set_option maxRecDepth 100000 in
theorem refMayE_c (n : Int) (v : Value) (xs : List (Int × Int × ByteArray)) (w : World) (hS : SlT EditE w v xs) (hbig : xs.length ≤ 1000000000) : Calls Try.prog 20 #[(.int .i64 (n)), v] w (fun e w' => e = .returned (.int .i64 (mayEd n xs)) ∧ Ext none' w w') := by
 refine enter (n := 16) Try.func20 rfl rfl (Nat.le_of_ble_eq_true rfl) ?_
 intro a0 τ0 ha st0
 have e0 : get a0 0 = (.int .i64 (n)) := ha 0 _ rfl
 have e1 : get a0 1 = v := ha 1 _ rfl
 clear ha
 have hle := hS.le
 refine wp_seq ?_
 refine region_St (bf := [0]) (sp := [det _ 4 _]) [] mixed st0 (by kernel_rfl) trivial
  ⟨Ob.d fun c => r_assign rfl rfl, trivial⟩ ?_
 intro a1 w1 τ1 st1 f1
 obtain ⟨e0, e1, -⟩ := f1.ks [(0, _), (1, _)] ⟨e0, e1, trivial⟩
 have e4 : get a1 4 = (.int .i64 (0)) := f1.v 0 rfl
 clear f1
 show Code.wp _ _ _ a1 w1
 refine wp_seq ?_
 refine region_St (bf := [0, 0, 3, 7]) (sp := [det _ 6 _, det _ 7 _, det _ 8 _, det _ 5 _]) [] mixed st1 (by kernel_rfl) trivial
  ⟨Ob.d fun c => r_move rfl (c.p e0),
  Ob.d fun c => r_move rfl (c.p e1),
  Ob.c fun c => ⟨_, _, (e_call2 rfl rfl Try.call35 (c.n 0 rfl) (c.n 1 rfl)), ranged_c n v xs _ (hS.at (st1.ext.trans c.J.ext)) (by first | omega | (simp only [List.length_map]; omega))⟩,
  Ob.d fun c => r_assign rfl (c.n 2 rfl), trivial⟩ ?_
 intro a2 w2 τ2 st2 f2
 obtain ⟨e0, e1, e4, -⟩ := f2.ks [(0, _), (1, _), (4, _)] ⟨e0, e1, e4, trivial⟩
 have e5 : get a2 5 = (.int .i64 (rangedF n xs)) := f2.v 3 rfl
 clear f2
 show Code.wp _ _ _ a2 w2
 refine wp_seq ?_
 refine wp_seq ?_
 refine region_St (bf := [0, 1]) (sp := [det _ 9 _, det _ 10 _]) [] mixed st2 (by kernel_rfl) trivial
  ⟨Ob.d fun c => r_move rfl (c.p e5),
  Ob.d fun c => r_neq rfl (c.n 0 rfl) rfl, trivial⟩ ?_
 intro a3 w3 τ3 st3 f3
 obtain ⟨e0, e1, e4, e5, -⟩ := f3.ks [(0, _), (1, _), (4, _), (5, _)] ⟨e0, e1, e4, e5, trivial⟩
 have e10 : get a3 10 = (.bool (!decide (rangedF n xs = 0))) := f3.v 1 rfl
 clear f3
 show Code.wp _ _ _ a3 w3
 refine wp_cond_split (t := !decide (rangedF n xs = 0)) e10 (fun hc1 => ?_) (fun hc1 => ?_)
 · try simp only [Bool.not_eq_true', Bool.not_eq_false', decide_eq_true_eq, decide_eq_false_iff_not] at hc1
   refine wp_seq ?_
   refine region_St (bf := [0, 1]) (sp := [det _ 11 _, det _ 4 _]) [] mixed st3 (by kernel_rfl) trivial
    ⟨Ob.d fun c => r_move rfl (c.p e5),
    Ob.d fun c => r_assign rfl (c.n 0 rfl), trivial⟩ ?_
   intro a4 w4 τ4 st4 f4
   obtain ⟨e0, e1, -⟩ := f4.ks [(0, _), (1, _)] ⟨e0, e1, trivial⟩
   have e4 : get a4 4 = (.int .i64 (rangedF n xs)) := f4.v 1 rfl
   clear f4
   show Code.wp _ _ _ a4 w4
   refine wp_ret ?_
   repeat (first | with_reducible refine then_ret ?_ | with_reducible refine block_ret ?_)
   refine ret1 (fn := Try.f20) rfl st4.defers e4 ?_
   exact ⟨congrArg _ (int_eq (by symm; exact refMay_r (by assumption))), st4.ext0⟩
 try simp only [Bool.not_eq_true', Bool.not_eq_false', decide_eq_true_eq, decide_eq_false_iff_not] at hc1
 refine wp_skip ?_
 show Code.wp _ _ _ a3 w3
 refine wp_seq ?_
 refine wp_seq ?_
 refine region_St (bf := [0, 0, 3, 7]) (sp := [det _ 12 _, det _ 13 _, det _ 14 _, det _ 15 _]) [] mixed st3 (by kernel_rfl) trivial
  ⟨Ob.d fun c => r_move rfl (c.p e0),
  Ob.d fun c => r_move rfl (c.p e1),
  Ob.c fun c => ⟨_, _, (e_call2 rfl rfl Try.call36 (c.n 0 rfl) (c.n 1 rfl)), refGrown_c n v xs _ (hS.at (st3.ext.trans c.J.ext)) (by first | omega | (simp only [List.length_map]; omega))⟩,
  Ob.d fun c => r_gtr rfl (c.n 2 rfl) rfl, trivial⟩ ?_
 intro a5 w5 τ5 st5 f5
 obtain ⟨e4, -⟩ := f5.ks [(4, _)] ⟨e4, trivial⟩
 have e15 : get a5 15 = (.bool (decide (65536 < grownW n xs))) := f5.v 3 rfl
 clear f5
 show Code.wp _ _ _ a5 w5
 refine wp_cond_split (t := decide (65536 < grownW n xs)) e15 (fun hc2 => ?_) (fun hc2 => ?_)
 · try simp only [decide_eq_true_eq] at hc2
   refine wp_seq ?_
   refine region_St (bf := [0]) (sp := [det _ 4 _]) [] mixed st5 (by kernel_rfl) trivial
    ⟨Ob.d fun c => r_assign rfl rfl, trivial⟩ ?_
   intro a6 w6 τ6 st6 f6
   have e4 : get a6 4 = (.int .i64 (4)) := f6.v 0 rfl
   clear f6
   show Code.wp _ _ _ a6 w6
   refine wp_ret ?_
   repeat (first | with_reducible refine then_ret ?_ | with_reducible refine block_ret ?_)
   refine ret1 (fn := Try.f20) rfl st6.defers e4 ?_
   exact ⟨congrArg _ (int_eq (by symm; exact refMay_4 (by assumption) (by assumption))), st6.ext0⟩
 try simp only [decide_eq_false_iff_not, Int.not_lt] at hc2
 refine wp_skip ?_
 show Code.wp _ _ _ a5 w5
 refine wp_seq ?_
 refine region_St (bf := [0]) (sp := [det _ 4 _]) [] mixed st5 (by kernel_rfl) trivial
  ⟨Ob.d fun c => r_assign rfl rfl, trivial⟩ ?_
 intro a7 w7 τ7 st7 f7
 have e4 : get a7 4 = (.int .i64 (0)) := f7.v 0 rfl
 clear f7
 show Code.wp _ _ _ a7 w7
 refine wp_ret ?_
 repeat (first | with_reducible refine then_ret ?_ | with_reducible refine block_ret ?_)
 refine ret1 (fn := Try.f20) rfl st7.defers e4 ?_
 exact ⟨congrArg _ (int_eq (by symm; exact refMay_0 (by assumption) (by assumption))), st7.ext0⟩

set_option maxRecDepth 100000 in
theorem sortE_c (v : Value) (xs : List (Int × Int × ByteArray)) (w : World) (hS : SlT EditE w v xs) (hbig : xs.length ≤ 1000000000) : Calls Try.prog 22 #[v] w (fun e w' => ∃ v', e = .returned v' ∧ Ext none' w w' ∧ NewT EditE 45 w w' v' (isort ltE xs)) := by
 refine enter (n := 9) Try.func22 rfl rfl (Nat.le_of_ble_eq_true rfl) ?_
 intro a0 τ0 ha st0
 have e0 : get a0 0 = v := ha 0 _ rfl
 clear ha
 have hle := hS.le
 refine wp_seq ?_
 refine region_St (bf := [0]) (sp := [det _ 2 _]) [] mixed st0 (by kernel_rfl) trivial
  ⟨Ob.d fun c => r_assign rfl rfl, trivial⟩ ?_
 intro a1 w1 τ1 st1 f1
 obtain ⟨e0, -⟩ := f1.ks [(0, _)] ⟨e0, trivial⟩
 have e2 : get a1 2 = (.slice none 0 0) := f1.v 0 rfl
 clear f1
 show Code.wp _ _ _ a1 w1
 refine wp_seq ?_
 refine region_St (bf := [0, 1, 3]) (sp := [det _ 4 _, own _ _ _ 0 5 _, own _ _ _ 0 3 _]) [] mixed st1 (by kernel_rfl) trivial
  ⟨Ob.d fun c => r_move rfl (c.p e0),
  Ob.callOwn rfl rfl rfl (fun _ a_ _ _ c => ⟨_, _, (e_call1 rfl rfl Try.call37 (c.n 0 rfl)), editClone_c v xs _ (hS.at (st1.ext.trans c.J.ext)) (by omega)⟩),
  Ob.moveT (t0 := 5) rfl rfl rfl rfl rfl (.inr rfl) (fun _ _ _ _ c => ⟨c.ro 1 rfl, rfl⟩), trivial⟩ ?_
 intro a2 w2 τ2 st2 f2
 obtain ⟨b2x3, e3⟩ : ∃ b, get a2 3 = b := ⟨_, rfl⟩
 obtain ⟨e2, -⟩ := f2.ks [(2, _)] ⟨e2, trivial⟩
 have r0 : ownR EditE 45 (xs) (τ2 0) b2x3 w2 := f2.ro 2 e3 rfl
 clear f2
 show Code.wp _ _ _ a2 w2
 refine wp_seq ?_
 refine region_St (bf := [0, 1]) (sp := [det _ 6 _, own _ _ _ 0 3 _]) [io r0] mixed st2 (by kernel_rfl) ⟨r0, trivial⟩
  ⟨Ob.d fun c => r_move rfl (c.p e3),
  Ob.callIn rfl rfl rfl (by decide) (fun _ a_ _ _ c => ⟨_, _, (e_call2 rfl rfl Try.call38 (c.n 0 rfl) rfl), c.p e3, c.io 0 rfl, fun ho_ => editSort_c b2x3 xs _ ho_ (by omega)⟩), trivial⟩ ?_
 intro a3 w3 τ3 st3 f3
 obtain ⟨e2, e3, -⟩ := f3.ks [(2, _), (3, _)] ⟨e2, e3, trivial⟩
 replace r0 : ownR EditE 45 (isort ltE xs) (τ3 0) b2x3 w3 := f3.ro 1 e3 rfl
 clear f3
 show Code.wp _ _ _ a3 w3
 refine wp_seq ?_
 refine region_St (bf := [0, 1]) (sp := [det _ 8 _, det _ 2 _]) [io r0] mixed st3 (by kernel_rfl) ⟨r0, trivial⟩
  ⟨Ob.d fun c => r_move rfl (c.p e3),
  Ob.d fun c => r_assign rfl (c.n 0 rfl), trivial⟩ ?_
 intro a4 w4 τ4 st4 f4
 have e2 : get a4 2 = b2x3 := f4.v 1 rfl
 replace r0 := f4.io 0 rfl
 clear f4
 show Code.wp _ _ _ a4 w4
 refine wp_ret ?_
 repeat (first | with_reducible refine then_ret ?_ | with_reducible refine block_ret ?_)
 refine ret1 (fn := Try.f22) rfl st4.defers e2 ?_
 exact ⟨_, rfl, st4.ext0, r0.1, fun g_ h_ => (st4.bnd _ g_ (r0.2 g_ h_)).1⟩

set_option maxRecDepth 100000 in
theorem refSortE_c (v : Value) (xs : List (Int × Int × ByteArray)) (w : World) (hS : SlT EditE w v xs) (hbig : xs.length ≤ 1000000000) : Calls Try.prog 23 #[v] w (fun e w' => ∃ v', e = .returned v' ∧ Ext none' w w' ∧ NewT EditE 45 w w' v' (isort ltE xs)) := by
 refine enter (n := 48) Try.func23 rfl rfl (Nat.le_of_ble_eq_true rfl) ?_
 intro a0 τ0 ha st0
 have e0 : get a0 0 = v := ha 0 _ rfl
 clear ha
 have hle := hS.le
 refine wp_seq ?_
 refine region_St (bf := [0]) (sp := [det _ 2 _]) [] mixed st0 (by kernel_rfl) trivial
  ⟨Ob.d fun c => r_assign rfl rfl, trivial⟩ ?_
 intro a1 w1 τ1 st1 f1
 obtain ⟨e0, -⟩ := f1.ks [(0, _)] ⟨e0, trivial⟩
 have e2 : get a1 2 = (.slice none 0 0) := f1.v 0 rfl
 clear f1
 show Code.wp _ _ _ a1 w1
 refine wp_seq ?_
 refine region_St (bf := [0]) (sp := [det _ 3 _]) [] mixed st1 (by kernel_rfl) trivial
  ⟨Ob.d fun c => r_assign rfl rfl, trivial⟩ ?_
 intro a2 w2 τ2 st2 f2
 obtain ⟨e0, e2, -⟩ := f2.ks [(0, _), (2, _)] ⟨e0, e2, trivial⟩
 have e3 : get a2 3 = (.slice none 0 0) := f2.v 0 rfl
 clear f2
 show Code.wp _ _ _ a2 w2
 refine wp_seq ?_
 refine wp_seq ?_
 refine region_St (bf := [0]) (sp := [det _ 4 _]) [] mixed st2 (by kernel_rfl) trivial
  ⟨Ob.d fun c => r_assign rfl rfl, trivial⟩ ?_
 intro a3 w3 τ3 st3 f3
 obtain ⟨e0, e2, e3, -⟩ := f3.ks [(0, _), (2, _), (3, _)] ⟨e0, e2, e3, trivial⟩
 have e4 : get a3 4 = (.int .i64 (0)) := f3.v 0 rfl
 clear f3
 show Code.wp _ _ _ a3 w3
 refine wp_block ?_
 refine wp_loop (fun a_ w_ => ∃ (i : Nat) (o : Value) (τ : Nat → Foot), (i ≤ xs.length) ∧
      St (Nw w) w 48 a_ w_ τ ∧
      get a_ 3 = o ∧
      get a_ 4 = (.int .i64 ((i : Int))) ∧
      get a_ 0 = v ∧
      get a_ 2 = (.slice none 0 0) ∧
      ownR EditE 45 ((isort lessE (xs.take i))) (τ 0) o w_) (fun a_ _ => xs.length - (intOf (get a_ 4)).toNat) ?_ ?_
 · refine ⟨0, (.slice none 0 0), τ3, ?_, st3, e3, (e4.trans (int_eq (by omega))), e0, e2, ?_⟩
   · omega
   · exact ownR.nil _ _ _ _
 intro a4 w4 hI
 obtain ⟨i, o, τ4, q0, st4, e3, e4, e0, e2, r0⟩ := hI
 have hil := isort_length (lt := lessE) (xs.take i)
 have htl := List.length_take_le i xs
 have m4 := e4
 refine wp_seq ?_
 refine wp_seq ?_
 refine region_St (bf := [0, 0, 2, 7]) (sp := [det _ 6 _, det _ 7 _, det _ 8 _, det _ 9 _]) [io r0] mixed st4 (by kernel_rfl) ⟨r0, trivial⟩
  ⟨Ob.d fun c => r_move rfl (c.p e4),
  Ob.d fun c => r_move rfl (c.p e0),
  Ob.d fun c => r_len rfl Try.underlying22 (c.n 1 rfl) hS.sl,
  Ob.d fun c => r_lss rfl (c.n 0 rfl) (c.n 2 rfl), trivial⟩ ?_
 intro a5 w5 τ5 st5 f5
 obtain ⟨e0, e2, e3, e4, -⟩ := f5.ks [(0, _), (2, _), (3, _), (4, _)] ⟨e0, e2, e3, e4, trivial⟩
 have e9 : get a5 9 = (.bool (decide ((i : Int) < (xs.length : Int)))) := f5.v 3 rfl
 replace r0 := f5.io 0 rfl
 clear f5
 show Code.wp _ _ _ a5 w5
 refine wp_cond_split (t := decide ((i : Int) < (xs.length : Int))) e9 (fun hc1 => ?_) (fun hc1 => ?_)
 · try simp only [decide_eq_true_eq] at hc1
   refine wp_skip ?_
   show Code.wp _ _ _ a5 w5
   refine wp_seq ?_
   refine wp_block ?_
   refine wp_seq ?_
   refine region_St (bf := [0, 1, 3]) (sp := [det _ 12 _, det _ 13 _, det _ 5 _]) [io r0] mixed st5 (by kernel_rfl) ⟨r0, trivial⟩
    ⟨Ob.d fun c => r_move rfl (c.p e3),
    Ob.d fun c => r_len rfl Try.underlying22 (c.n 0 rfl) r0.isSl,
    Ob.d fun c => r_assign rfl (c.n 1 rfl), trivial⟩ ?_
   intro a6 w6 τ6 st6 f6
   obtain ⟨e0, e2, e3, e4, e9, -⟩ := f6.ks [(0, _), (2, _), (3, _), (4, _), (9, _)] ⟨e0, e2, e3, e4, e9, trivial⟩
   have e5 : get a6 5 = (.int .i64 (((isort lessE (xs.take i)).length : Int))) := f6.v 2 rfl
   replace r0 := f6.io 0 rfl
   clear f6
   show Code.wp _ _ _ a6 w6
   refine wp_seq ?_
   refine wp_block ?_
   refine wp_loop (fun a_ w_ => ∃ (k : Nat) (τ : Nat → Foot), (k ≤ (isort lessE (xs.take i)).length) ∧
          (∀ q ∈ (isort lessE (xs.take i)).drop k, lessE (nth xs (i : Int)) q = true) ∧
          St (Nw w) w 48 a_ w_ τ ∧
          get a_ 5 = (.int .i64 ((k : Int))) ∧
          get a_ 0 = v ∧
          get a_ 2 = (.slice none 0 0) ∧
          get a_ 3 = o ∧
          get a_ 4 = (.int .i64 ((i : Int))) ∧
          get a_ 9 = (.bool (decide ((i : Int) < (xs.length : Int)))) ∧
          ownR EditE 45 ((isort lessE (xs.take i))) (τ 0) o w_) (fun a_ _ => (intOf (get a_ 5)).toNat) ?_ ?_
   · refine ⟨(isort lessE (xs.take i)).length, τ6, ?_, ?_, st6, (e5.trans (int_eq (by omega))), e0, e2, e3, e4, e9, r0⟩
     · omega
     · simp
   intro a7 w7 hI
   obtain ⟨k, τ7, q0, q1, st7, e5, e0, e2, e3, e4, e9, r0⟩ := hI
   have m5 := e5
   refine wp_seq ?_
   refine wp_seq ?_
   refine region_St (bf := [0, 1, 3, 7, 7, 31, 63, 127, 7, 7, 519, 1799, 3847, 7943, 16383, 32767]) (sp := [det _ 14 _, det _ 15 _, det _ 16 _, gdet _ 17 _ _, gdet _ 18 _ _, gdet _ 19 _ _, gdet _ 20 _ _, gdet _ 21 _ _, gdet _ 22 _ _, gdet _ 23 _ _, gdet _ 24 _ _, gdet _ 25 _ _, gdet _ 26 _ _, gdet _ 27 _ _, gdet _ 28 _ _, det _ 29 _]) [io r0] mixed st7 (by kernel_rfl) ⟨r0, trivial⟩
    ⟨Ob.d fun c => r_move rfl (c.p e5),
    Ob.d fun c => r_gtr rfl (c.n 0 rfl) rfl,
    Ob.d fun c => r_move rfl (c.n 1 rfl),
    Ob.g 2 true rfl fun c hpc => r_move rfl (c.p e0),
    Ob.g 2 true rfl fun c hpc => r_move rfl (c.p e4),
    Ob.g 2 true rfl fun c hpc => r_indexAddr rfl Try.underlying22 Try.sizeOf45 (c.m 3 rfl hpc) hS.sl (c.m 4 rfl hpc) (by have hq0 := bt hpc; omega) (by have hq0 := bt hpc; omega),
    Ob.g 2 true rfl fun c hpc => r_fieldAddr rfl Try.underlying45 rfl rfl Try.sizeOf43 (c.m 5 rfl hpc),
    Ob.g 2 true rfl fun c hpc => r_loadN (vs := [(.int .i64 ((nth xs ((i : Int))).1)), (.int .i64 ((nth xs ((i : Int))).2.1))]) rfl Try.isAgg43 Try.sizeOf43 (c.m 6 rfl hpc) rfl (fun j_ u_ hj => by rw [add_add, add_add]; have h_ := ((hS.at (st7.ext.trans c.J.ext))).elem (j := 0 + j_) (nth_some (i := (i : Int)) (by have hq0 := bt hpc; omega) (by have hq0 := bt hpc; omega)) (by revert hj; cases j_ with | zero => exact id | succ j_ => cases j_ with | zero => exact id | succ j_ => intro hj; simp at hj); rwa [add_add] at h_),
    Ob.g 2 true rfl fun c hpc => r_move rfl (c.p e3),
    Ob.g 2 true rfl fun c hpc => r_move rfl (c.p e5),
    Ob.g 2 true rfl fun c hpc => r_sub rfl (c.m 9 rfl hpc) rfl (by have hq0 := bt hpc; omega),
    Ob.g 2 true rfl fun c hpc => r_indexAddr rfl Try.underlying22 Try.sizeOf45 (c.m 8 rfl hpc) r0.isSl (c.m 10 rfl hpc) (by have hq0 := bt hpc; omega) (by have hq0 := bt hpc; omega),
    Ob.g 2 true rfl fun c hpc => r_fieldAddr rfl Try.underlying45 rfl rfl Try.sizeOf43 (c.m 11 rfl hpc),
    Ob.g 2 true rfl fun c hpc => r_loadN (vs := [(.int .i64 ((nth (isort lessE (xs.take i)) ((k : Int) - 1)).1)), (.int .i64 ((nth (isort lessE (xs.take i)) ((k : Int) - 1)).2.1))]) rfl Try.isAgg43 Try.sizeOf43 (c.m 12 rfl hpc) rfl (fun j_ u_ hj => by rw [add_add, add_add]; have h_ := ((c.io 0 rfl).1.sl).elem (j := 0 + j_) (nth_some (i := (k : Int) - 1) (by have hq0 := bt hpc; omega) (by have hq0 := bt hpc; omega)) (by revert hj; cases j_ with | zero => exact id | succ j_ => cases j_ with | zero => exact id | succ j_ => intro hj; simp at hj); rwa [add_add] at h_),
    Ob.gc 2 true rfl fun c hpc => ⟨_, _, (e_call2 rfl rfl Try.call42 (c.m 7 rfl hpc) (c.m 13 rfl hpc)), refLess_c ((nth xs ((i : Int))).1, (nth xs ((i : Int))).2.1) ((nth (isort lessE (xs.take i)) ((k : Int) - 1)).1, (nth (isort lessE (xs.take i)) ((k : Int) - 1)).2.1) _⟩,
    Ob.d fun c => r_and rfl (c.n 2 rfl) (fun h => c.m 14 rfl h), trivial⟩ ?_
   intro a8 w8 τ8 st8 f8
   obtain ⟨e0, e2, e3, e4, e5, e9, -⟩ := f8.ks [(0, _), (2, _), (3, _), (4, _), (5, _), (9, _)] ⟨e0, e2, e3, e4, e5, e9, trivial⟩
   have e29 : get a8 29 = (.bool ((decide (0 < (k : Int))) && (lessB ((nth xs ((i : Int))).1, (nth xs ((i : Int))).2.1) ((nth (isort lessE (xs.take i)) ((k : Int) - 1)).1, (nth (isort lessE (xs.take i)) ((k : Int) - 1)).2.1)))) := f8.v 15 rfl
   replace r0 := f8.io 0 rfl
   clear f8
   show Code.wp _ _ _ a8 w8
   refine wp_cond_split (t := (decide (0 < (k : Int))) && (lessB ((nth xs ((i : Int))).1, (nth xs ((i : Int))).2.1) ((nth (isort lessE (xs.take i)) ((k : Int) - 1)).1, (nth (isort lessE (xs.take i)) ((k : Int) - 1)).2.1))) e29 (fun hc2 => ?_) (fun hc2 => ?_)
   · have hd2 := hc2; try simp only [Bool.and_eq_true, decide_eq_true_eq] at hd2
     refine wp_skip ?_
     show Code.wp _ _ _ a8 w8
     refine wp_block ?_
     refine region_St (bf := [0, 1, 3]) (sp := [det _ 30 _, det _ 31 _, det _ 5 _]) [io r0] mixed st8 (by kernel_rfl) ⟨r0, trivial⟩
      ⟨Ob.d fun c => r_move rfl (c.p e5),
      Ob.d fun c => r_sub rfl (c.n 0 rfl) rfl (by omega),
      Ob.d fun c => r_assign rfl (c.n 1 rfl), trivial⟩ ?_
     intro a9 w9 τ9 st9 f9
     obtain ⟨e0, e2, e3, e4, e9, e29, -⟩ := f9.ks [(0, _), (2, _), (3, _), (4, _), (9, _), (29, _)] ⟨e0, e2, e3, e4, e9, e29, trivial⟩
     have e5 : get a9 5 = (.int .i64 ((k : Int) - 1)) := f9.v 2 rfl
     replace r0 := f9.io 0 rfl
     clear f9
     show _
     refine ⟨⟨k - 1, τ9, ?_, ?_, st9, (e5.trans (int_eq (by omega))), e0, e2, e3, e4, e9, r0⟩, ?_⟩
     · omega
     · obtain ⟨h1_, h_⟩ := (by assumption : (0 : Int) < (k : Int) ∧ lessE (nth xs (i : Int)) (nth (isort lessE (xs.take i)) ((k : Int) - 1)) = true); exact down_step (lt := lessE) (by omega) q0 q1 h_
     · simp only [m5, e5, intOf]; omega
   have hd2 := hc2; try simp only [Bool.and_eq_false_iff, decide_eq_false_iff_not, Int.not_lt] at hd2
   refine wp_exit ?_
   repeat (with_reducible refine then_exit ?_)
   refine exit_here ?_
   show Code.wp _ _ _ a8 w8
   refine region_St (bf := [0, 0, 0, 6, 15, 0, 0, 96, 224, 480, 1023, 0, 0, 6144, 16383, 32767]) (sp := [own EditE 45 _ 1 32 ([]), det _ 33 _, det _ 34 _, det _ 35 _, own _ _ _ 1 36 _, det _ 37 _, det _ 38 _, det _ 39 _, det _ 40 _, own EditE 45 _ 2 41 ([(nth xs ((i : Int)))]), own _ _ _ 1 42 _, det _ 43 _, det _ 44 _, det _ 45 _, own _ _ _ 1 46 _, own _ _ _ 1 3 _]) [io r0] mixed st8 (by kernel_rfl) ⟨r0, trivial⟩
    ⟨Ob.buildEmpty rfl rfl rfl rfl Try.underlying22 Try.sizeOf45,
    Ob.d fun c => r_move rfl (c.p e3),
    Ob.d fun c => r_move rfl (c.p e5),
    Ob.d fun c => r_sliceHi rfl Try.underlying22 Try.sizeOf45 (c.n 1 rfl) r0.isSl (c.n 2 rfl) (by omega) (by omega),
    Ob.append (t0 := 32) rfl rfl rfl rfl Try.underlying22 (i := Try.t45) rfl rfl rfl rfl (by simp only [maxLen]; (try simp); omega) (by show _ * 32 ≤ _; (try simp); omega) (fun _ _ _ _ c => ⟨c.ro 0 rfl, rfl, ⟨_, (c.n 3 rfl), ((c.io 0 rfl).1.sl.sub (lo := 0) (hi := k) (by omega) (by omega))⟩⟩),
    Ob.d fun c => r_move rfl (c.p e0),
    Ob.d fun c => r_move rfl (c.p e4),
    Ob.d fun c => r_indexAddr rfl Try.underlying22 Try.sizeOf45 (c.n 5 rfl) hS.sl (c.n 6 rfl) (by omega) (by omega),
    Ob.d fun c => r_loadN (vs := [(.int .i64 ((nth xs ((i : Int))).1)), (.int .i64 ((nth xs ((i : Int))).2.1)), (.string ((nth xs ((i : Int))).2.2))]) rfl Try.isAgg45 Try.sizeOf45 (c.n 7 rfl) rfl (fun _ _ hj => ((hS.at (st8.ext.trans c.J.ext))).elem (nth_some (i := (i : Int)) (by omega) (by omega)) hj),
    Ob.buildSlice (cells := #[(.int .i64 ((nth xs ((i : Int))).1)), (.int .i64 ((nth xs ((i : Int))).2.1)), (.string ((nth xs ((i : Int))).2.2))]) rfl rfl rfl rfl Try.underlying22 Try.sizeOf45 Try.zeroValue45 rfl (by decide) (by decide) (fun _ _ _ _ c => fill1 (c.n 8 rfl) (by kernel_rfl)) rfl,
    Ob.append (t0 := 36) rfl rfl rfl rfl Try.underlying22 (i := Try.t45) rfl rfl rfl rfl (by simp only [maxLen]; (try simp); omega) (by show _ * 32 ≤ _; (try simp); omega) (fun _ _ _ _ c => ⟨c.ro 4 rfl, rfl, ⟨_, rfl, (c.ro 9 rfl).1.sl⟩⟩),
    Ob.d fun c => r_move rfl (c.p e3),
    Ob.d fun c => r_move rfl (c.p e5),
    Ob.d fun c => r_sliceLo rfl Try.underlying22 Try.sizeOf45 (c.n 11 rfl) r0.isSl (c.n 12 rfl) (by omega) (by omega),
    Ob.append (t0 := 42) rfl rfl rfl rfl Try.underlying22 (i := Try.t45) rfl rfl rfl rfl (by simp only [maxLen]; (try simp); omega) (by show _ * 32 ≤ _; (try simp); omega) (fun _ _ _ _ c => ⟨c.ro 10 rfl, rfl, ⟨_, (c.n 13 rfl), ((c.io 0 rfl).1.sl.sub (lo := k) (hi := (isort lessE (xs.take i)).length) (by omega) (by omega))⟩⟩),
    Ob.moveT (t0 := 46) rfl rfl rfl rfl rfl (.inr rfl) (fun _ _ _ _ c => ⟨c.ro 14 rfl, rfl⟩), trivial⟩ ?_
   intro a10 w10 τ10 st10 f10
   obtain ⟨b10x3, e3⟩ : ∃ b, get a10 3 = b := ⟨_, rfl⟩
   obtain ⟨b10x41, e41⟩ : ∃ b, get a10 41 = b := ⟨_, rfl⟩
   obtain ⟨e0, e2, e4, e5, e9, e29, -⟩ := f10.ks [(0, _), (2, _), (4, _), (5, _), (9, _), (29, _)] ⟨e0, e2, e4, e5, e9, e29, trivial⟩
   replace r0 := f10.io 0 rfl
   have r1 : ownR EditE 45 (((([]) ++ (((isort lessE (xs.take i)).drop 0).take (k - 0))) ++ ([(nth xs ((i : Int)))])) ++ (((isort lessE (xs.take i)).drop k).take (((isort lessE (xs.take i)).length) - k))) (τ10 1) b10x3 w10 := f10.ro 15 e3 rfl
   have r2 : ownR EditE 45 ([(nth xs ((i : Int)))]) (τ10 2) b10x41 w10 := f10.ro 9 e41 rfl
   clear f10
   show _
   show Code.wp _ _ _ a10 w10
   refine region_St (bf := [0, 1, 3]) (sp := [det _ 10 _, det _ 11 _, det _ 4 _]) [io r0, io r1, io r2] mixed st10 (by kernel_rfl) ⟨r0, r1, r2, trivial⟩
    ⟨Ob.d fun c => r_move rfl (c.p e4),
    Ob.d fun c => r_add rfl (c.n 0 rfl) rfl (by omega),
    Ob.d fun c => r_assign rfl (c.n 1 rfl), trivial⟩ ?_
   intro a11 w11 τ11 st11 f11
   obtain ⟨e0, e2, e3, e5, e9, e29, -⟩ := f11.ks [(0, _), (2, _), (3, _), (5, _), (9, _), (29, _)] ⟨e0, e2, e3, e5, e9, e29, trivial⟩
   have e4 : get a11 4 = (.int .i64 ((i : Int) + 1)) := f11.v 2 rfl
   replace r0 := f11.io 0 rfl
   replace r1 := f11.io 1 rfl
   replace r2 := f11.io 2 rfl
   clear f11
   refine ⟨⟨i + 1, b10x3, (retag τ11 [(0, 1)]), ?_, (st11.retag [(0, 1)] (by decide)), e3, (e4.trans (int_eq (by omega))), e0, e2, ?_⟩, ?_⟩
   · omega
   · exact r1.cast (by exact refIns (by omega) q0 q1 (by assumption))
   · simp only [m4, e4, intOf]; omega
 try simp only [decide_eq_false_iff_not, Int.not_lt] at hc1
 refine wp_exit ?_
 repeat (with_reducible refine then_exit ?_)
 refine exit_here ?_
 show Code.wp _ _ _ a5 w5
 refine wp_seq ?_
 refine region_St (bf := [0, 1]) (sp := [det _ 47 _, det _ 2 _]) [io r0] mixed st5 (by kernel_rfl) ⟨r0, trivial⟩
  ⟨Ob.d fun c => r_move rfl (c.p e3),
  Ob.d fun c => r_assign rfl (c.n 0 rfl), trivial⟩ ?_
 intro a12 w12 τ12 st12 f12
 have e2 : get a12 2 = o := f12.v 1 rfl
 replace r0 := f12.io 0 rfl
 clear f12
 show Code.wp _ _ _ a12 w12
 refine wp_ret ?_
 repeat (first | with_reducible refine then_ret ?_ | with_reducible refine block_ret ?_)
 refine ret1 (fn := Try.f23) rfl st12.defers e2 ?_
 replace r0 := r0.cast (show isort ltE xs = _ from by rw [List.take_of_length_le (by omega), lessE_eq])
 exact ⟨_, rfl, st12.ext0, r0.1, fun g_ h_ => (st12.bnd _ g_ (r0.2 g_ h_)).1⟩
end B
end Go.Proofs.Ytfkjmkngiiokmaa
