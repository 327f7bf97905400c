/-
  Walks, printed by a program (gen.py): SelLCodes.
-/
import Derived.Test.YtjapbdofhbfmfaaSelQ
set_option linter.unusedSimpArgs false
set_option linter.unusedVariables false
namespace Go.Proofs.Ytjapbdofhbfmfaa
namespace B
open Go.RowKit
open Srt
set_option maxRecDepth 100000 in
theorem selsCodes_c (m : Int) (p : Int × Int) (n : Int) (w : World) : Calls Try.prog 6 #[.int .i64 m, spanV p, .int .i64 n] w (fun e w' => e = .returned (.bool (true)) ∧ Ext none' w w') := by
  refine enter (n := 71) Try.func6 rfl rfl (Nat.le_of_ble_eq_true rfl) ?_
  intro a0 τ0 ha st0
  have e0 : get a0 0 = (.int .i64 (m)) := ha 0 _ rfl
  have e1 : get a0 1 = (.agg #[(.int .i64 (p.1)), (.int .i64 (p.2))]) := ha 1 _ rfl
  have e2 : get a0 2 = (.int .i64 (n)) := ha 2 _ rfl
  clear ha
  refine wp_seq ?_
  refine region_St (bf := [0, 0]) (sp := [
      (box 33 (Nw w) 0 4 [(.int .i64 (p.1)), (.int .i64 (p.2))]),
        (det (Nw w) 6 (.bool (false)))])
    [] mixed st0 (by kernel_rfl) trivial
    ⟨Ob.box (v := (.agg #[(.int .i64 (p.1)), (.int .i64 (p.2))])) rfl rfl rfl rfl rfl (fun _ _ _ _ c => (c.eo e1 (by kernel_rfl))),
       Ob.det rfl rfl rfl (fun _ a_ _ _ c => r_assign rfl rfl),
     trivial⟩ ?_
  intro a1 w1 τ1 st1 f1
  obtain ⟨b1x4, e4⟩ : ∃ b, get a1 4 = b := ⟨_, rfl⟩
  replace e0 := f1.old e0 (by kernel_rfl)
  replace e2 := f1.old e2 (by kernel_rfl)
  have e6 : get a1 6 = (.bool (false)) := f1.v 1 rfl
  have r0 : boxR 33 [(.int .i64 (p.1)), (.int .i64 (p.2))] (τ1 0) b1x4 w1 := f1.rbox 0 rfl rfl e4
  clear f1
  show Code.wp _ _ _ a1 w1
  refine wp_seq ?_
  refine region_St (bf := [0, 1, 3]) (sp := [
      (det (Nw w) 13 (.int .i64 (m))),
        (det (Nw w) 14 (.int .i64 (lowF m 67))),
        (det (Nw w) 7 (.int .i64 (lowF m 67)))])
    [(ibox 33 (Nw w) b1x4 [(.int .i64 (p.1)), (.int .i64 (p.2))])] mixed st1 (by kernel_rfl) ⟨r0, trivial⟩
    ⟨Ob.det rfl rfl rfl (fun _ a_ _ _ c => r_move rfl (c.eo e0 (by kernel_rfl))),
       Ob.call rfl rfl rfl (fun _ a_ _ _ c => ⟨_, _, (e_call2 rfl rfl Try.call14 (c.ev 0 rfl rfl) rfl), low_c m 67 _ (by omega) (by omega)⟩),
       Ob.det rfl rfl rfl (fun _ a_ _ _ c => r_assign rfl (c.ev 1 rfl rfl)),
     trivial⟩ ?_
  intro a2 w2 τ2 st2 f2
  replace e2 := f2.old e2 (by kernel_rfl)
  replace e4 := f2.old e4 (by kernel_rfl)
  replace e6 := f2.old e6 (by kernel_rfl)
  have e7 : get a2 7 = (.int .i64 (lowF m 67)) := f2.v 2 rfl
  replace r0 : boxR 33 [(.int .i64 (p.1)), (.int .i64 (p.2))] (τ2 0) b1x4 w2 := f2.ibox 0 rfl rfl
  clear f2
  have hlow := low_range m 67 (by omega) (by omega)
  obtain ⟨k, hk⟩ : ∃ x_ : Nat, lowF m 67 = (x_ : Int) := ⟨(lowF m 67).toNat, by omega⟩
  replace e7 := e7.trans (int_eq hk)
  show Code.wp _ _ _ a2 w2
  refine wp_seq ?_
  refine region_St (bf := [0]) (sp := [
      (det (Nw w) 8 (.slice none 0 0))])
    [(ibox 33 (Nw w) b1x4 [(.int .i64 (p.1)), (.int .i64 (p.2))])] mixed st2 (by kernel_rfl) ⟨r0, trivial⟩
    ⟨Ob.det rfl rfl rfl (fun _ a_ _ _ c => r_assign rfl rfl),
     trivial⟩ ?_
  intro a3 w3 τ3 st3 f3
  replace e2 := f3.old e2 (by kernel_rfl)
  replace e4 := f3.old e4 (by kernel_rfl)
  replace e6 := f3.old e6 (by kernel_rfl)
  replace e7 := f3.old e7 (by kernel_rfl)
  have e8 : get a3 8 = (.slice none 0 0) := f3.v 0 rfl
  replace r0 : boxR 33 [(.int .i64 (p.1)), (.int .i64 (p.2))] (τ3 0) b1x4 w3 := f3.ibox 0 rfl rfl
  clear f3
  show Code.wp _ _ _ a3 w3
  refine wp_seq ?_
  refine wp_seq ?_
  refine region_St (bf := [0]) (sp := [
      (det (Nw w) 9 (.int .i64 (0)))])
    [(ibox 33 (Nw w) b1x4 [(.int .i64 (p.1)), (.int .i64 (p.2))])] mixed st3 (by kernel_rfl) ⟨r0, trivial⟩
    ⟨Ob.det rfl rfl rfl (fun _ a_ _ _ c => r_assign rfl rfl),
     trivial⟩ ?_
  intro a4 w4 τ4 st4 f4
  replace e2 := f4.old e2 (by kernel_rfl)
  replace e4 := f4.old e4 (by kernel_rfl)
  replace e6 := f4.old e6 (by kernel_rfl)
  replace e7 := f4.old e7 (by kernel_rfl)
  replace e8 := f4.old e8 (by kernel_rfl)
  have e9 : get a4 9 = (.int .i64 (0)) := f4.v 0 rfl
  replace r0 : boxR 33 [(.int .i64 (p.1)), (.int .i64 (p.2))] (τ4 0) b1x4 w4 := f4.ibox 0 rfl rfl
  clear f4
  show Code.wp _ _ _ a4 w4
  refine wp_block ?_
  refine wp_loop (fun a_ w_ => ∃ (i : Nat) (o : Value) (τ : Nat → Foot), (i ≤ k) ∧
        St (Nw w) w 71 a_ w_ τ ∧
        get a_ 8 = o ∧
        get a_ 9 = (.int .i64 ((i : Int))) ∧
        get a_ 2 = (.int .i64 (n)) ∧
        get a_ 4 = b1x4 ∧
        get a_ 6 = (.bool (false)) ∧
        get a_ 7 = (.int .i64 ((k : Int))) ∧
        ownR SpanE 33 (List.replicate i p) (τ 1) o w_ ∧
        boxR 33 [(.int .i64 (p.1)), (.int .i64 (p.2))] (τ 0) b1x4 w_) (fun a_ _ => k - (intOf (get a_ 9)).toNat) ?_ ?_
  · refine ⟨0, (.slice none 0 0), τ4, ?_, st4, e8, (e9.trans (int_eq (by omega))), e2, e4, e6, e7, ?_, r0⟩
    · omega
    · exact ownR.nil _ _ _ _
  intro a5 w5 hI
  obtain ⟨i, o, τ5, q0, st5, e8, e9, e2, e4, e6, e7, r1, r0⟩ := hI
  have hrl := @List.length_replicate _ i p
  have m9 := e9
  refine wp_seq ?_
  refine wp_seq ?_
  refine region_St (bf := [0, 0, 3]) (sp := [
      (det (Nw w) 15 (.int .i64 ((i : Int)))),
        (det (Nw w) 16 (.int .i64 ((k : Int)))),
        (det (Nw w) 17 (.bool (decide ((i : Int) < (k : Int)))))])
    [(ibox 33 (Nw w) b1x4 [(.int .i64 (p.1)), (.int .i64 (p.2))]), (iown SpanE 33 (Nw w) o (List.replicate i p))] mixed st5 (by kernel_rfl) ⟨r0, r1, trivial⟩
    ⟨Ob.det rfl rfl rfl (fun _ a_ _ _ c => r_move rfl (c.eo e9 (by kernel_rfl))),
       Ob.det rfl rfl rfl (fun _ a_ _ _ c => r_move rfl (c.eo e7 (by kernel_rfl))),
       Ob.det rfl rfl rfl (fun _ a_ _ _ c => r_lss rfl (c.ev 0 rfl rfl) (c.ev 1 rfl rfl)),
     trivial⟩ ?_
  intro a6 w6 τ6 st6 f6
  replace e2 := f6.old e2 (by kernel_rfl)
  replace e4 := f6.old e4 (by kernel_rfl)
  replace e6 := f6.old e6 (by kernel_rfl)
  replace e7 := f6.old e7 (by kernel_rfl)
  replace e8 := f6.old e8 (by kernel_rfl)
  replace e9 := f6.old e9 (by kernel_rfl)
  have e17 : get a6 17 = (.bool (decide ((i : Int) < (k : Int)))) := f6.v 2 rfl
  replace r0 : boxR 33 [(.int .i64 (p.1)), (.int .i64 (p.2))] (τ6 0) b1x4 w6 := f6.ibox 0 rfl rfl
  replace r1 : ownR SpanE 33 (List.replicate i p) (τ6 1) o w6 := f6.iown 1 rfl rfl
  clear f6
  show Code.wp _ _ _ a6 w6
  refine wp_cond_split (t := decide ((i : Int) < (k : Int))) e17 (fun hc1 => ?_) (fun hc1 => ?_)
  · try simp only [Bool.and_eq_true, Bool.or_eq_true, decide_eq_true_eq, decide_eq_false_iff_not, Bool.not_eq_true', Bool.and_eq_false_iff, Bool.or_eq_false_iff, Bool.not_eq_false', Int.not_lt, Int.not_le, beq_iff_eq, selB] at hc1
    refine wp_skip ?_
    show Code.wp _ _ _ a6 w6
    refine wp_seq ?_
    refine wp_block ?_
    refine region_St (bf := [0, 0, 2, 7, 15]) (sp := [
        (det (Nw w) 20 o),
            (det (Nw w) 21 (.agg #[(.int .i64 (p.1)), (.int .i64 (p.2))])),
            (own SpanE 33 (Nw w) 2 22 ([p])),
            (own SpanE 33 (Nw w) 1 23 ((List.replicate i p) ++ ([p]))),
            (own SpanE 33 (Nw w) 1 8 ((List.replicate i p) ++ ([p])))])
      [(ibox 33 (Nw w) b1x4 [(.int .i64 (p.1)), (.int .i64 (p.2))]), (iown SpanE 33 (Nw w) o (List.replicate i p))] mixed st6 (by kernel_rfl) ⟨r0, r1, trivial⟩
      ⟨Ob.det rfl rfl rfl (fun _ a_ _ _ c => r_move rfl (c.eo e8 (by kernel_rfl))),
           Ob.det rfl rfl rfl (fun _ a_ _ _ c => r_loadN (vs := [(.int .i64 (p.1)), (.int .i64 (p.2))]) rfl Try.isAgg33 Try.sizeOf33 ((c.eo e4 (by kernel_rfl)).trans r0.ptr) rfl (fun _ _ hj => (c.ibox 0 rfl rfl (by kernel_rfl)).cell hj)),
           Ob.buildSlice (cells := #[(.int .i64 (p.1)), (.int .i64 (p.2))]) rfl rfl rfl rfl Try.underlying22 Try.sizeOf33 Try.zeroValue33 rfl (by decide) (by decide) (fun _ a_ _ _ c => by simp only [List.map_toArray, List.map_cons, List.map_nil, (show a_.eval (.tmp 21) = (.agg #[(.int .i64 (p.1)), (.int .i64 (p.2))]) from (c.ev 1 rfl rfl))]; kernel_rfl) rfl,
           Ob.append (t0 := 8) rfl rfl rfl rfl Try.underlying22 (i := Try.t33) rfl rfl rfl rfl (by simp only [maxLen]; (try simp); omega) (by show _ * 16 ≤ _; (try simp); omega) (fun _ _ _ _ c => ⟨by rw [(show get _ 8 = o from c.old e8 (by kernel_rfl))]; exact c.iown 1 rfl rfl (by kernel_rfl), (c.ev 0 rfl rfl).trans (show o = get _ 8 from (c.old e8 (by kernel_rfl)).symm), ⟨_, rfl, (c.rown 2 rfl rfl (by kernel_rfl)).1.sl⟩⟩),
           Ob.moveT (t0 := 23) rfl rfl rfl rfl rfl (.inr rfl) (fun _ _ _ _ c => ⟨c.rown 3 rfl rfl (by kernel_rfl), rfl⟩),
       trivial⟩ ?_
    intro a7 w7 τ7 st7 f7
    obtain ⟨b7x22, e22⟩ : ∃ b, get a7 22 = b := ⟨_, rfl⟩
    obtain ⟨b7x8, e8⟩ : ∃ b, get a7 8 = b := ⟨_, rfl⟩
    replace e2 := f7.old e2 (by kernel_rfl)
    replace e4 := f7.old e4 (by kernel_rfl)
    replace e6 := f7.old e6 (by kernel_rfl)
    replace e7 := f7.old e7 (by kernel_rfl)
    replace e9 := f7.old e9 (by kernel_rfl)
    replace e17 := f7.old e17 (by kernel_rfl)
    replace r0 : boxR 33 [(.int .i64 (p.1)), (.int .i64 (p.2))] (τ7 0) b1x4 w7 := f7.ibox 0 rfl rfl
    have r1 : ownR SpanE 33 ((List.replicate i p) ++ ([p])) (τ7 1) b7x8 w7 := f7.rown 4 rfl rfl e8
    have r2 : ownR SpanE 33 ([p]) (τ7 2) b7x22 w7 := f7.rown 2 rfl rfl e22
    clear f7
    show _
    show Code.wp _ _ _ a7 w7
    refine region_St (bf := [0, 1, 3]) (sp := [
        (det (Nw w) 18 (.int .i64 ((i : Int)))),
            (det (Nw w) 19 (.int .i64 ((i : Int) + 1))),
            (det (Nw w) 9 (.int .i64 ((i : Int) + 1)))])
      [(ibox 33 (Nw w) b1x4 [(.int .i64 (p.1)), (.int .i64 (p.2))]), (iown SpanE 33 (Nw w) b7x8 ((List.replicate i p) ++ ([p]))), (iown SpanE 33 (Nw w) b7x22 ([p]))] mixed st7 (by kernel_rfl) ⟨r0, r1, r2, trivial⟩
      ⟨Ob.det rfl rfl rfl (fun _ a_ _ _ c => r_move rfl (c.eo e9 (by kernel_rfl))),
           Ob.det rfl rfl rfl (fun _ a_ _ _ c => r_add rfl (c.ev 0 rfl rfl) rfl (by omega)),
           Ob.det rfl rfl rfl (fun _ a_ _ _ c => r_assign rfl (c.ev 1 rfl rfl)),
       trivial⟩ ?_
    intro a8 w8 τ8 st8 f8
    replace e2 := f8.old e2 (by kernel_rfl)
    replace e4 := f8.old e4 (by kernel_rfl)
    replace e6 := f8.old e6 (by kernel_rfl)
    replace e7 := f8.old e7 (by kernel_rfl)
    replace e8 := f8.old e8 (by kernel_rfl)
    have e9 : get a8 9 = (.int .i64 ((i : Int) + 1)) := f8.v 2 rfl
    replace e17 := f8.old e17 (by kernel_rfl)
    replace r0 : boxR 33 [(.int .i64 (p.1)), (.int .i64 (p.2))] (τ8 0) b1x4 w8 := f8.ibox 0 rfl rfl
    replace r1 : ownR SpanE 33 ((List.replicate i p) ++ ([p])) (τ8 1) b7x8 w8 := f8.iown 1 rfl rfl
    replace r2 : ownR SpanE 33 ([p]) (τ8 2) b7x22 w8 := f8.iown 2 rfl rfl
    clear f8
    refine ⟨⟨i + 1, b7x8, τ8, ?_, st8, e8, (e9.trans (int_eq (by omega))), e2, e4, e6, e7, ?_, r0⟩, ?_⟩
    · omega
    · exact r1.cast (by exact List.replicate_succ')
    · simp only [m9, e9, intOf]; omega
  try simp only [Bool.and_eq_true, Bool.or_eq_true, decide_eq_true_eq, decide_eq_false_iff_not, Bool.not_eq_true', Bool.and_eq_false_iff, Bool.or_eq_false_iff, Bool.not_eq_false', Int.not_lt, Int.not_le, beq_iff_eq, selB] at hc1
  refine wp_exit ?_
  repeat (with_reducible refine then_exit ?_)
  refine exit_here ?_
  show Code.wp _ _ _ a6 w6
  refine wp_seq ?_
  refine region_St (bf := [0, 0, 3, 7, 15, 15, 31, 127]) (sp := [
      (det (Nw w) 25 (.int .i64 (n))),
        (det (Nw w) 26 o),
        (tup SpanE 33 (Nw w) 2 27 (normF n (List.replicate i p)) (.int .i64 (normE n (List.replicate i p)))),
        (tup SpanE 33 (Nw w) 2 24 (normF n (List.replicate i p)) (.int .i64 (normE n (List.replicate i p)))),
        (own SpanE 33 (Nw w) 2 28 (normF n (List.replicate i p))),
        (det (Nw w) 29 (.int .i64 (normE n (List.replicate i p)))),
        (own SpanE 33 (Nw w) 2 10 (normF n (List.replicate i p))),
        (det (Nw w) 11 (.int .i64 (normE n (List.replicate i p))))])
    [(ibox 33 (Nw w) b1x4 [(.int .i64 (p.1)), (.int .i64 (p.2))]), (iown SpanE 33 (Nw w) o (List.replicate i p))] mixed st6 (by kernel_rfl) ⟨r0, r1, trivial⟩
    ⟨Ob.det rfl rfl rfl (fun _ a_ _ _ c => r_move rfl (c.eo e2 (by kernel_rfl))),
       Ob.det rfl rfl rfl (fun _ a_ _ _ c => r_move rfl (c.eo e8 (by kernel_rfl))),
       Ob.callTup rfl rfl rfl (fun _ a_ _ _ c => ⟨_, _, (e_call2 rfl rfl Try.call10 (c.ev 0 rfl rfl) (c.ev 1 rfl rfl)), norm_c n o (List.replicate i p) _ (c.iown 1 rfl rfl (by kernel_rfl)).1.sl⟩),
       Ob.moveT (t0 := 27) rfl rfl rfl rfl rfl (.inl rfl) (fun _ _ _ _ c => ⟨c.rtup 2 rfl rfl (by kernel_rfl), rfl⟩),
       Ob.part0 (t0 := 24) (k := (.int .i64 (normE n (List.replicate i p)))) rfl rfl rfl rfl (fun _ _ _ _ c => c.rtup 3 rfl rfl (by kernel_rfl)),
       Ob.det rfl rfl rfl (fun _ a_ _ _ c => c.part1 3 rfl rfl rfl),
       Ob.moveT (t0 := 28) rfl rfl rfl rfl rfl (.inr rfl) (fun _ _ _ _ c => ⟨c.rown 4 rfl rfl (by kernel_rfl), rfl⟩),
       Ob.det rfl rfl rfl (fun _ a_ _ _ c => r_assign rfl (c.ev 5 rfl rfl)),
     trivial⟩ ?_
  intro a9 w9 τ9 st9 f9
  obtain ⟨b9x10, e10⟩ : ∃ b, get a9 10 = b := ⟨_, rfl⟩
  replace e2 := f9.old e2 (by kernel_rfl)
  replace e4 := f9.old e4 (by kernel_rfl)
  replace e6 := f9.old e6 (by kernel_rfl)
  replace e7 := f9.old e7 (by kernel_rfl)
  have e11 : get a9 11 = (.int .i64 (normE n (List.replicate i p))) := f9.v 7 rfl
  replace r0 : boxR 33 [(.int .i64 (p.1)), (.int .i64 (p.2))] (τ9 0) b1x4 w9 := f9.ibox 0 rfl rfl
  have r2 : ownR SpanE 33 (normF n (List.replicate i p)) (τ9 2) b9x10 w9 := f9.rown 6 rfl rfl e10
  clear f9
  show Code.wp _ _ _ a9 w9
  refine wp_seq ?_
  refine region_St (bf := [0]) (sp := [
      (det (Nw w) 12 (.int .i64 (0)))])
    [(ibox 33 (Nw w) b1x4 [(.int .i64 (p.1)), (.int .i64 (p.2))]), (Ini.any (Nw w)), (iown SpanE 33 (Nw w) b9x10 (normF n (List.replicate i p)))] mixed st9 (by kernel_rfl) ⟨r0, trivial, r2, trivial⟩
    ⟨Ob.det rfl rfl rfl (fun _ a_ _ _ c => r_assign rfl rfl),
     trivial⟩ ?_
  intro a10 w10 τ10 st10 f10
  replace e2 := f10.old e2 (by kernel_rfl)
  replace e4 := f10.old e4 (by kernel_rfl)
  replace e6 := f10.old e6 (by kernel_rfl)
  replace e7 := f10.old e7 (by kernel_rfl)
  replace e10 := f10.old e10 (by kernel_rfl)
  replace e11 := f10.old e11 (by kernel_rfl)
  have e12 : get a10 12 = (.int .i64 (0)) := f10.v 0 rfl
  replace r0 : boxR 33 [(.int .i64 (p.1)), (.int .i64 (p.2))] (τ10 0) b1x4 w10 := f10.ibox 0 rfl rfl
  replace r2 : ownR SpanE 33 (normF n (List.replicate i p)) (τ10 2) b9x10 w10 := f10.iown 2 rfl rfl
  clear f10
  show Code.wp _ _ _ a10 w10
  refine wp_seq ?_
  refine wp_block ?_
  refine wp_seq ?_
  refine region_St (bf := [0, 1, 3]) (sp := [
      (det (Nw w) 31 (.int .i64 ((k : Int)))),
        (det (Nw w) 32 (.bool (decide ((k : Int) = 0)))),
        (det (Nw w) 30 (.bool (decide ((k : Int) = 0))))])
    [(ibox 33 (Nw w) b1x4 [(.int .i64 (p.1)), (.int .i64 (p.2))]), (Ini.any (Nw w)), (iown SpanE 33 (Nw w) b9x10 (normF n (List.replicate i p)))] mixed st10 (by kernel_rfl) ⟨r0, trivial, r2, trivial⟩
    ⟨Ob.det rfl rfl rfl (fun _ a_ _ _ c => r_move rfl (c.eo e7 (by kernel_rfl))),
       Ob.det rfl rfl rfl (fun _ a_ _ _ c => r_eql rfl (c.ev 0 rfl rfl) rfl),
       Ob.det rfl rfl rfl (fun _ a_ _ _ c => r_assign rfl (c.ev 1 rfl rfl)),
     trivial⟩ ?_
  intro a11 w11 τ11 st11 f11
  replace e2 := f11.old e2 (by kernel_rfl)
  replace e4 := f11.old e4 (by kernel_rfl)
  replace e6 := f11.old e6 (by kernel_rfl)
  replace e7 := f11.old e7 (by kernel_rfl)
  replace e10 := f11.old e10 (by kernel_rfl)
  replace e11 := f11.old e11 (by kernel_rfl)
  replace e12 := f11.old e12 (by kernel_rfl)
  have e30 : get a11 30 = (.bool (decide ((k : Int) = 0))) := f11.v 2 rfl
  replace r0 : boxR 33 [(.int .i64 (p.1)), (.int .i64 (p.2))] (τ11 0) b1x4 w11 := f11.ibox 0 rfl rfl
  replace r2 : ownR SpanE 33 (normF n (List.replicate i p)) (τ11 2) b9x10 w11 := f11.iown 2 rfl rfl
  clear f11
  show Code.wp _ _ _ a11 w11
  refine wp_cond_split (t := decide ((k : Int) = 0)) e30 (fun hc2 => ?_) (fun hc2 => ?_)
  · try simp only [Bool.and_eq_true, Bool.or_eq_true, decide_eq_true_eq, decide_eq_false_iff_not, Bool.not_eq_true', Bool.and_eq_false_iff, Bool.or_eq_false_iff, Bool.not_eq_false', Int.not_lt, Int.not_le, beq_iff_eq, selB] at hc2
    refine region_St (bf := [0]) (sp := [
        (det (Nw w) 12 (.int .i64 (2)))])
      [(ibox 33 (Nw w) b1x4 [(.int .i64 (p.1)), (.int .i64 (p.2))]), (Ini.any (Nw w)), (iown SpanE 33 (Nw w) b9x10 (normF n (List.replicate i p)))] mixed st11 (by kernel_rfl) ⟨r0, trivial, r2, trivial⟩
      ⟨Ob.det rfl rfl rfl (fun _ a_ _ _ c => r_assign rfl rfl),
       trivial⟩ ?_
    intro a12 w12 τ12 st12 f12
    replace e2 := f12.old e2 (by kernel_rfl)
    replace e4 := f12.old e4 (by kernel_rfl)
    replace e6 := f12.old e6 (by kernel_rfl)
    replace e7 := f12.old e7 (by kernel_rfl)
    replace e10 := f12.old e10 (by kernel_rfl)
    replace e11 := f12.old e11 (by kernel_rfl)
    have e12 : get a12 12 = (.int .i64 (2)) := f12.v 0 rfl
    replace r0 : boxR 33 [(.int .i64 (p.1)), (.int .i64 (p.2))] (τ12 0) b1x4 w12 := f12.ibox 0 rfl rfl
    replace r2 : ownR SpanE 33 (normF n (List.replicate i p)) (τ12 2) b9x10 w12 := f12.iown 2 rfl rfl
    clear f12
    show _
    show Code.wp _ _ _ a12 w12
    refine wp_seq ?_
    refine region_St (bf := [0, 0, 3, 7, 15, 31, 63, 15, 143, 511, 1023, 2047, 4095, 8191, 16383]) (sp := [
        (det (Nw w) 57 (.int .i64 (normE n (List.replicate i p)))),
            (det (Nw w) 58 (.int .i64 (2))),
            (det (Nw w) 59 (.bool (decide (normE n (List.replicate i p) = 2)))),
            (det (Nw w) 60 (.bool (decide (normE n (List.replicate i p) = 2)))),
            (gdet (Nw w) 61 ((decide (normE n (List.replicate i p) = 2)) = true) b9x10),
            (gdet (Nw w) 62 ((decide (normE n (List.replicate i p) = 2)) = true) (.int .i64 (((normF n (List.replicate i p)).length : Int)))),
            (gdet (Nw w) 63 ((decide (normE n (List.replicate i p) = 2)) = true) (.bool (decide (0 < ((normF n (List.replicate i p)).length : Int))))),
            (gdet (Nw w) 64 ((decide (normE n (List.replicate i p) = 2)) = true) (.int .i64 (2))),
            (gdet (Nw w) 65 ((decide (normE n (List.replicate i p) = 2)) = true) (.bool (decide (2 = 0)))),
            (gdet (Nw w) 66 ((decide (normE n (List.replicate i p) = 2)) = true) (.bool ((decide (0 < ((normF n (List.replicate i p)).length : Int))) == (decide (2 = 0))))),
            (det (Nw w) 67 (.bool ((decide (normE n (List.replicate i p) = 2)) && ((decide (0 < ((normF n (List.replicate i p)).length : Int))) == (decide (2 = 0)))))),
            (det (Nw w) 68 (.bool ((decide (normE n (List.replicate i p) = 2)) && ((decide (0 < ((normF n (List.replicate i p)).length : Int))) == (decide (2 = 0)))))),
            (gdet (Nw w) 69 (((decide (normE n (List.replicate i p) = 2)) && ((decide (0 < ((normF n (List.replicate i p)).length : Int))) == (decide (2 = 0)))) = true) (.bool (true))),
            (det (Nw w) 70 (.bool (((decide (normE n (List.replicate i p) = 2)) && ((decide (0 < ((normF n (List.replicate i p)).length : Int))) == (decide (2 = 0)))) && true))),
            (det (Nw w) 6 (.bool (((decide (normE n (List.replicate i p) = 2)) && ((decide (0 < ((normF n (List.replicate i p)).length : Int))) == (decide (2 = 0)))) && true)))])
      [(ibox 33 (Nw w) b1x4 [(.int .i64 (p.1)), (.int .i64 (p.2))]), (Ini.any (Nw w)), (iown SpanE 33 (Nw w) b9x10 (normF n (List.replicate i p)))] mixed st12 (by kernel_rfl) ⟨r0, trivial, r2, trivial⟩
      ⟨Ob.det rfl rfl rfl (fun _ a_ _ _ c => r_move rfl (c.eo e11 (by kernel_rfl))),
           Ob.det rfl rfl rfl (fun _ a_ _ _ c => r_move rfl (c.eo e12 (by kernel_rfl))),
           Ob.det rfl rfl rfl (fun _ a_ _ _ c => r_eql rfl (c.ev 0 rfl rfl) (c.ev 1 rfl rfl)),
           Ob.det rfl rfl rfl (fun _ a_ _ _ c => r_move rfl (c.ev 2 rfl rfl)),
           Ob.gdet rfl rfl rfl rfl (gi := 3) (tg := 60) rfl rfl Iff.rfl (fun _ a_ _ _ c hpc => r_move rfl (c.eo e10 (by kernel_rfl))),
           Ob.gdet rfl rfl rfl rfl (gi := 3) (tg := 60) rfl rfl Iff.rfl (fun _ a_ _ _ c hpc => r_len rfl Try.underlying22 (c.eg 4 rfl rfl hpc) r2.isSl),
           Ob.gdet rfl rfl rfl rfl (gi := 3) (tg := 60) rfl rfl Iff.rfl (fun _ a_ _ _ c hpc => r_gtr rfl (c.eg 5 rfl rfl hpc) rfl),
           Ob.gdet rfl rfl rfl rfl (gi := 3) (tg := 60) rfl rfl Iff.rfl (fun _ a_ _ _ c hpc => r_move rfl (c.eo e12 (by kernel_rfl))),
           Ob.gdet rfl rfl rfl rfl (gi := 3) (tg := 60) rfl rfl Iff.rfl (fun _ a_ _ _ c hpc => r_eql rfl (c.eg 7 rfl rfl hpc) rfl),
           Ob.gdet rfl rfl rfl rfl (gi := 3) (tg := 60) rfl rfl Iff.rfl (fun _ a_ _ _ c hpc => r_beql rfl Try.underlying4 (c.eg 6 rfl rfl hpc) (c.eg 8 rfl rfl hpc)),
           Ob.det rfl rfl rfl (fun _ a_ _ _ c => r_and rfl (c.ev 3 rfl rfl) (fun h => (c.eg 9 rfl rfl h))),
           Ob.det rfl rfl rfl (fun _ a_ _ _ c => r_move rfl (c.ev 10 rfl rfl)),
           Ob.gcall rfl rfl rfl rfl (gi := 11) (tg := 68) rfl rfl Iff.rfl (fun _ a_ _ _ c hpc => ⟨_, _, (e_call0 rfl rfl Try.call9), awake_c _⟩),
           Ob.det rfl rfl rfl (fun _ a_ _ _ c => r_and rfl (c.ev 11 rfl rfl) (fun h => (c.eg 12 rfl rfl h))),
           Ob.det rfl rfl rfl (fun _ a_ _ _ c => r_assign rfl (c.ev 13 rfl rfl)),
       trivial⟩ ?_
    intro a13 w13 τ13 st13 f13
    have e6 : get a13 6 = (.bool (((decide (normE n (List.replicate i p) = 2)) && ((decide (0 < ((normF n (List.replicate i p)).length : Int))) == (decide (2 = 0)))) && true)) := f13.v 14 rfl
    replace e12 := f13.old e12 (by kernel_rfl)
    clear f13
    show Code.wp _ _ _ a13 w13
    refine wp_ret ?_
    repeat (first | with_reducible refine then_ret ?_ | with_reducible refine block_ret ?_)
    refine ret1 (fn := Try.f6) rfl st13.defers e6 ?_
    obtain rfl : i = k := by omega
    obtain ⟨k1, k2⟩ := codes_2 (n := n) (i := i) (p := p) (by omega)
    exact ⟨congrArg _ (congrArg _ (show (((decide (normE n (List.replicate i p) = 2)) && ((decide (0 < ((normF n (List.replicate i p)).length : Int))) == (decide (2 = 0)))) && true) = true from by rw [k1, k2]; rfl)), st13.ext0⟩
  try simp only [Bool.and_eq_true, Bool.or_eq_true, decide_eq_true_eq, decide_eq_false_iff_not, Bool.not_eq_true', Bool.and_eq_false_iff, Bool.or_eq_false_iff, Bool.not_eq_false', Int.not_lt, Int.not_le, beq_iff_eq, selB] at hc2
  refine wp_seq ?_
  refine region_St (bf := [0, 1, 3]) (sp := [
      (det (Nw w) 34 (.int .i64 ((k : Int)))),
        (det (Nw w) 35 (.bool (decide (64 < (k : Int))))),
        (det (Nw w) 33 (.bool (decide (64 < (k : Int)))))])
    [(ibox 33 (Nw w) b1x4 [(.int .i64 (p.1)), (.int .i64 (p.2))]), (Ini.any (Nw w)), (iown SpanE 33 (Nw w) b9x10 (normF n (List.replicate i p)))] mixed st11 (by kernel_rfl) ⟨r0, trivial, r2, trivial⟩
    ⟨Ob.det rfl rfl rfl (fun _ a_ _ _ c => r_move rfl (c.eo e7 (by kernel_rfl))),
       Ob.det rfl rfl rfl (fun _ a_ _ _ c => r_gtr rfl (c.ev 0 rfl rfl) rfl),
       Ob.det rfl rfl rfl (fun _ a_ _ _ c => r_assign rfl (c.ev 1 rfl rfl)),
     trivial⟩ ?_
  intro a14 w14 τ14 st14 f14
  replace e2 := f14.old e2 (by kernel_rfl)
  replace e4 := f14.old e4 (by kernel_rfl)
  replace e6 := f14.old e6 (by kernel_rfl)
  replace e10 := f14.old e10 (by kernel_rfl)
  replace e11 := f14.old e11 (by kernel_rfl)
  replace e12 := f14.old e12 (by kernel_rfl)
  have e33 : get a14 33 = (.bool (decide (64 < (k : Int)))) := f14.v 2 rfl
  replace r0 : boxR 33 [(.int .i64 (p.1)), (.int .i64 (p.2))] (τ14 0) b1x4 w14 := f14.ibox 0 rfl rfl
  replace r2 : ownR SpanE 33 (normF n (List.replicate i p)) (τ14 2) b9x10 w14 := f14.iown 2 rfl rfl
  clear f14
  show Code.wp _ _ _ a14 w14
  refine wp_cond_split (t := decide (64 < (k : Int))) e33 (fun hc3 => ?_) (fun hc3 => ?_)
  · try simp only [Bool.and_eq_true, Bool.or_eq_true, decide_eq_true_eq, decide_eq_false_iff_not, Bool.not_eq_true', Bool.and_eq_false_iff, Bool.or_eq_false_iff, Bool.not_eq_false', Int.not_lt, Int.not_le, beq_iff_eq, selB] at hc3
    refine region_St (bf := [0]) (sp := [
        (det (Nw w) 12 (.int .i64 (7)))])
      [(ibox 33 (Nw w) b1x4 [(.int .i64 (p.1)), (.int .i64 (p.2))]), (Ini.any (Nw w)), (iown SpanE 33 (Nw w) b9x10 (normF n (List.replicate i p)))] mixed st14 (by kernel_rfl) ⟨r0, trivial, r2, trivial⟩
      ⟨Ob.det rfl rfl rfl (fun _ a_ _ _ c => r_assign rfl rfl),
       trivial⟩ ?_
    intro a15 w15 τ15 st15 f15
    replace e2 := f15.old e2 (by kernel_rfl)
    replace e4 := f15.old e4 (by kernel_rfl)
    replace e6 := f15.old e6 (by kernel_rfl)
    replace e10 := f15.old e10 (by kernel_rfl)
    replace e11 := f15.old e11 (by kernel_rfl)
    have e12 : get a15 12 = (.int .i64 (7)) := f15.v 0 rfl
    replace r0 : boxR 33 [(.int .i64 (p.1)), (.int .i64 (p.2))] (τ15 0) b1x4 w15 := f15.ibox 0 rfl rfl
    replace r2 : ownR SpanE 33 (normF n (List.replicate i p)) (τ15 2) b9x10 w15 := f15.iown 2 rfl rfl
    clear f15
    show _
    show Code.wp _ _ _ a15 w15
    refine wp_seq ?_
    refine region_St (bf := [0, 0, 3, 7, 15, 31, 63, 15, 143, 511, 1023, 2047, 4095, 8191, 16383]) (sp := [
        (det (Nw w) 57 (.int .i64 (normE n (List.replicate i p)))),
            (det (Nw w) 58 (.int .i64 (7))),
            (det (Nw w) 59 (.bool (decide (normE n (List.replicate i p) = 7)))),
            (det (Nw w) 60 (.bool (decide (normE n (List.replicate i p) = 7)))),
            (gdet (Nw w) 61 ((decide (normE n (List.replicate i p) = 7)) = true) b9x10),
            (gdet (Nw w) 62 ((decide (normE n (List.replicate i p) = 7)) = true) (.int .i64 (((normF n (List.replicate i p)).length : Int)))),
            (gdet (Nw w) 63 ((decide (normE n (List.replicate i p) = 7)) = true) (.bool (decide (0 < ((normF n (List.replicate i p)).length : Int))))),
            (gdet (Nw w) 64 ((decide (normE n (List.replicate i p) = 7)) = true) (.int .i64 (7))),
            (gdet (Nw w) 65 ((decide (normE n (List.replicate i p) = 7)) = true) (.bool (decide (7 = 0)))),
            (gdet (Nw w) 66 ((decide (normE n (List.replicate i p) = 7)) = true) (.bool ((decide (0 < ((normF n (List.replicate i p)).length : Int))) == (decide (7 = 0))))),
            (det (Nw w) 67 (.bool ((decide (normE n (List.replicate i p) = 7)) && ((decide (0 < ((normF n (List.replicate i p)).length : Int))) == (decide (7 = 0)))))),
            (det (Nw w) 68 (.bool ((decide (normE n (List.replicate i p) = 7)) && ((decide (0 < ((normF n (List.replicate i p)).length : Int))) == (decide (7 = 0)))))),
            (gdet (Nw w) 69 (((decide (normE n (List.replicate i p) = 7)) && ((decide (0 < ((normF n (List.replicate i p)).length : Int))) == (decide (7 = 0)))) = true) (.bool (true))),
            (det (Nw w) 70 (.bool (((decide (normE n (List.replicate i p) = 7)) && ((decide (0 < ((normF n (List.replicate i p)).length : Int))) == (decide (7 = 0)))) && true))),
            (det (Nw w) 6 (.bool (((decide (normE n (List.replicate i p) = 7)) && ((decide (0 < ((normF n (List.replicate i p)).length : Int))) == (decide (7 = 0)))) && true)))])
      [(ibox 33 (Nw w) b1x4 [(.int .i64 (p.1)), (.int .i64 (p.2))]), (Ini.any (Nw w)), (iown SpanE 33 (Nw w) b9x10 (normF n (List.replicate i p)))] mixed st15 (by kernel_rfl) ⟨r0, trivial, r2, trivial⟩
      ⟨Ob.det rfl rfl rfl (fun _ a_ _ _ c => r_move rfl (c.eo e11 (by kernel_rfl))),
           Ob.det rfl rfl rfl (fun _ a_ _ _ c => r_move rfl (c.eo e12 (by kernel_rfl))),
           Ob.det rfl rfl rfl (fun _ a_ _ _ c => r_eql rfl (c.ev 0 rfl rfl) (c.ev 1 rfl rfl)),
           Ob.det rfl rfl rfl (fun _ a_ _ _ c => r_move rfl (c.ev 2 rfl rfl)),
           Ob.gdet rfl rfl rfl rfl (gi := 3) (tg := 60) rfl rfl Iff.rfl (fun _ a_ _ _ c hpc => r_move rfl (c.eo e10 (by kernel_rfl))),
           Ob.gdet rfl rfl rfl rfl (gi := 3) (tg := 60) rfl rfl Iff.rfl (fun _ a_ _ _ c hpc => r_len rfl Try.underlying22 (c.eg 4 rfl rfl hpc) r2.isSl),
           Ob.gdet rfl rfl rfl rfl (gi := 3) (tg := 60) rfl rfl Iff.rfl (fun _ a_ _ _ c hpc => r_gtr rfl (c.eg 5 rfl rfl hpc) rfl),
           Ob.gdet rfl rfl rfl rfl (gi := 3) (tg := 60) rfl rfl Iff.rfl (fun _ a_ _ _ c hpc => r_move rfl (c.eo e12 (by kernel_rfl))),
           Ob.gdet rfl rfl rfl rfl (gi := 3) (tg := 60) rfl rfl Iff.rfl (fun _ a_ _ _ c hpc => r_eql rfl (c.eg 7 rfl rfl hpc) rfl),
           Ob.gdet rfl rfl rfl rfl (gi := 3) (tg := 60) rfl rfl Iff.rfl (fun _ a_ _ _ c hpc => r_beql rfl Try.underlying4 (c.eg 6 rfl rfl hpc) (c.eg 8 rfl rfl hpc)),
           Ob.det rfl rfl rfl (fun _ a_ _ _ c => r_and rfl (c.ev 3 rfl rfl) (fun h => (c.eg 9 rfl rfl h))),
           Ob.det rfl rfl rfl (fun _ a_ _ _ c => r_move rfl (c.ev 10 rfl rfl)),
           Ob.gcall rfl rfl rfl rfl (gi := 11) (tg := 68) rfl rfl Iff.rfl (fun _ a_ _ _ c hpc => ⟨_, _, (e_call0 rfl rfl Try.call9), awake_c _⟩),
           Ob.det rfl rfl rfl (fun _ a_ _ _ c => r_and rfl (c.ev 11 rfl rfl) (fun h => (c.eg 12 rfl rfl h))),
           Ob.det rfl rfl rfl (fun _ a_ _ _ c => r_assign rfl (c.ev 13 rfl rfl)),
       trivial⟩ ?_
    intro a16 w16 τ16 st16 f16
    have e6 : get a16 6 = (.bool (((decide (normE n (List.replicate i p) = 7)) && ((decide (0 < ((normF n (List.replicate i p)).length : Int))) == (decide (7 = 0)))) && true)) := f16.v 14 rfl
    replace e12 := f16.old e12 (by kernel_rfl)
    clear f16
    show Code.wp _ _ _ a16 w16
    refine wp_ret ?_
    repeat (first | with_reducible refine then_ret ?_ | with_reducible refine block_ret ?_)
    refine ret1 (fn := Try.f6) rfl st16.defers e6 ?_
    obtain rfl : i = k := by omega
    obtain ⟨k1, k2⟩ := codes_7 (n := n) (i := i) (p := p) (by omega)
    exact ⟨congrArg _ (congrArg _ (show (((decide (normE n (List.replicate i p) = 7)) && ((decide (0 < ((normF n (List.replicate i p)).length : Int))) == (decide (7 = 0)))) && true) = true from by rw [k1, k2]; rfl)), st16.ext0⟩
  try simp only [Bool.and_eq_true, Bool.or_eq_true, decide_eq_true_eq, decide_eq_false_iff_not, Bool.not_eq_true', Bool.and_eq_false_iff, Bool.or_eq_false_iff, Bool.not_eq_false', Int.not_lt, Int.not_le, beq_iff_eq, selB] at hc3
  refine wp_seq ?_
  refine region_St (bf := [0, 1, 3, 7, 15, 31, 63, 127, 255, 511, 1023, 511, 4095, 8191, 16383, 32767, 65535, 32767, 262143, 524287, 1048575]) (sp := [
      (det (Nw w) 37 (.pointer (some ((ptrOf b1x4).add 0)))),
        (det (Nw w) 38 (.int .i64 (p.1))),
        (det (Nw w) 39 (.bool (decide (p.1 < 0)))),
        (det (Nw w) 40 (.bool (decide (p.1 < 0)))),
        (gdet (Nw w) 41 ((decide (p.1 < 0)) = false) (.pointer (some ((ptrOf b1x4).add 1)))),
        (gdet (Nw w) 42 ((decide (p.1 < 0)) = false) (.int .i64 (p.2))),
        (gdet (Nw w) 43 ((decide (p.1 < 0)) = false) (.bool (decide (p.2 < 0)))),
        (det (Nw w) 44 (.bool ((decide (p.1 < 0)) || (decide (p.2 < 0))))),
        (det (Nw w) 45 (.bool ((decide (p.1 < 0)) || (decide (p.2 < 0))))),
        (gdet (Nw w) 46 (((decide (p.1 < 0)) || (decide (p.2 < 0))) = false) (.pointer (some ((ptrOf b1x4).add 0)))),
        (gdet (Nw w) 47 (((decide (p.1 < 0)) || (decide (p.2 < 0))) = false) (.int .i64 (p.1))),
        (gdet (Nw w) 48 (((decide (p.1 < 0)) || (decide (p.2 < 0))) = false) (.int .i64 (n))),
        (gdet (Nw w) 49 (((decide (p.1 < 0)) || (decide (p.2 < 0))) = false) (.bool (decide (n < p.1)))),
        (det (Nw w) 50 (.bool (((decide (p.1 < 0)) || (decide (p.2 < 0))) || (decide (n < p.1))))),
        (det (Nw w) 51 (.bool (((decide (p.1 < 0)) || (decide (p.2 < 0))) || (decide (n < p.1))))),
        (gdet (Nw w) 52 ((((decide (p.1 < 0)) || (decide (p.2 < 0))) || (decide (n < p.1))) = false) (.pointer (some ((ptrOf b1x4).add 1)))),
        (gdet (Nw w) 53 ((((decide (p.1 < 0)) || (decide (p.2 < 0))) || (decide (n < p.1))) = false) (.int .i64 (p.2))),
        (gdet (Nw w) 54 ((((decide (p.1 < 0)) || (decide (p.2 < 0))) || (decide (n < p.1))) = false) (.int .i64 (n))),
        (gdet (Nw w) 55 ((((decide (p.1 < 0)) || (decide (p.2 < 0))) || (decide (n < p.1))) = false) (.bool (decide (n < p.2)))),
        (det (Nw w) 56 (.bool ((((decide (p.1 < 0)) || (decide (p.2 < 0))) || (decide (n < p.1))) || (decide (n < p.2))))),
        (det (Nw w) 36 (.bool ((((decide (p.1 < 0)) || (decide (p.2 < 0))) || (decide (n < p.1))) || (decide (n < p.2)))))])
    [(ibox 33 (Nw w) b1x4 [(.int .i64 (p.1)), (.int .i64 (p.2))]), (Ini.any (Nw w)), (iown SpanE 33 (Nw w) b9x10 (normF n (List.replicate i p)))] mixed st14 (by kernel_rfl) ⟨r0, trivial, r2, trivial⟩
    ⟨Ob.det rfl rfl rfl (fun _ a_ _ _ c => r_fieldAddr rfl Try.underlying33 rfl rfl Try.sizeOf3 ((c.eo e4 (by kernel_rfl)).trans r0.ptr)),
       Ob.det rfl rfl rfl (fun _ a_ _ _ c => r_load1 rfl Try.isAgg3 (c.ev 0 rfl rfl) ((c.ibox 0 rfl rfl (by kernel_rfl)).cell (j := 0) rfl)),
       Ob.det rfl rfl rfl (fun _ a_ _ _ c => r_lss rfl (c.ev 1 rfl rfl) rfl),
       Ob.det rfl rfl rfl (fun _ a_ _ _ c => r_move rfl (c.ev 2 rfl rfl)),
       Ob.gdet rfl rfl rfl rfl (gi := 3) (tg := 40) rfl rfl Iff.rfl (fun _ a_ _ _ c hpc => r_fieldAddr rfl Try.underlying33 rfl rfl Try.sizeOf3 ((c.eo e4 (by kernel_rfl)).trans r0.ptr)),
       Ob.gdet rfl rfl rfl rfl (gi := 3) (tg := 40) rfl rfl Iff.rfl (fun _ a_ _ _ c hpc => r_load1 rfl Try.isAgg3 (c.eg 4 rfl rfl hpc) ((c.ibox 0 rfl rfl (by kernel_rfl)).cell (j := 1) rfl)),
       Ob.gdet rfl rfl rfl rfl (gi := 3) (tg := 40) rfl rfl Iff.rfl (fun _ a_ _ _ c hpc => r_lss rfl (c.eg 5 rfl rfl hpc) rfl),
       Ob.det rfl rfl rfl (fun _ a_ _ _ c => r_or rfl (c.ev 3 rfl rfl) (fun h => (c.eg 6 rfl rfl h))),
       Ob.det rfl rfl rfl (fun _ a_ _ _ c => r_move rfl (c.ev 7 rfl rfl)),
       Ob.gdet rfl rfl rfl rfl (gi := 8) (tg := 45) rfl rfl Iff.rfl (fun _ a_ _ _ c hpc => r_fieldAddr rfl Try.underlying33 rfl rfl Try.sizeOf3 ((c.eo e4 (by kernel_rfl)).trans r0.ptr)),
       Ob.gdet rfl rfl rfl rfl (gi := 8) (tg := 45) rfl rfl Iff.rfl (fun _ a_ _ _ c hpc => r_load1 rfl Try.isAgg3 (c.eg 9 rfl rfl hpc) ((c.ibox 0 rfl rfl (by kernel_rfl)).cell (j := 0) rfl)),
       Ob.gdet rfl rfl rfl rfl (gi := 8) (tg := 45) rfl rfl Iff.rfl (fun _ a_ _ _ c hpc => r_move rfl (c.eo e2 (by kernel_rfl))),
       Ob.gdet rfl rfl rfl rfl (gi := 8) (tg := 45) rfl rfl Iff.rfl (fun _ a_ _ _ c hpc => r_gtr rfl (c.eg 10 rfl rfl hpc) (c.eg 11 rfl rfl hpc)),
       Ob.det rfl rfl rfl (fun _ a_ _ _ c => r_or rfl (c.ev 8 rfl rfl) (fun h => (c.eg 12 rfl rfl h))),
       Ob.det rfl rfl rfl (fun _ a_ _ _ c => r_move rfl (c.ev 13 rfl rfl)),
       Ob.gdet rfl rfl rfl rfl (gi := 14) (tg := 51) rfl rfl Iff.rfl (fun _ a_ _ _ c hpc => r_fieldAddr rfl Try.underlying33 rfl rfl Try.sizeOf3 ((c.eo e4 (by kernel_rfl)).trans r0.ptr)),
       Ob.gdet rfl rfl rfl rfl (gi := 14) (tg := 51) rfl rfl Iff.rfl (fun _ a_ _ _ c hpc => r_load1 rfl Try.isAgg3 (c.eg 15 rfl rfl hpc) ((c.ibox 0 rfl rfl (by kernel_rfl)).cell (j := 1) rfl)),
       Ob.gdet rfl rfl rfl rfl (gi := 14) (tg := 51) rfl rfl Iff.rfl (fun _ a_ _ _ c hpc => r_move rfl (c.eo e2 (by kernel_rfl))),
       Ob.gdet rfl rfl rfl rfl (gi := 14) (tg := 51) rfl rfl Iff.rfl (fun _ a_ _ _ c hpc => r_gtr rfl (c.eg 16 rfl rfl hpc) (c.eg 17 rfl rfl hpc)),
       Ob.det rfl rfl rfl (fun _ a_ _ _ c => r_or rfl (c.ev 14 rfl rfl) (fun h => (c.eg 18 rfl rfl h))),
       Ob.det rfl rfl rfl (fun _ a_ _ _ c => r_assign rfl (c.ev 19 rfl rfl)),
     trivial⟩ ?_
  intro a17 w17 τ17 st17 f17
  replace e6 := f17.old e6 (by kernel_rfl)
  replace e10 := f17.old e10 (by kernel_rfl)
  replace e11 := f17.old e11 (by kernel_rfl)
  replace e12 := f17.old e12 (by kernel_rfl)
  have e36 : get a17 36 = (.bool ((((decide (p.1 < 0)) || (decide (p.2 < 0))) || (decide (n < p.1))) || (decide (n < p.2)))) := f17.v 20 rfl
  replace r2 : ownR SpanE 33 (normF n (List.replicate i p)) (τ17 2) b9x10 w17 := f17.iown 2 rfl rfl
  clear f17
  show Code.wp _ _ _ a17 w17
  refine wp_cond_split (t := (((decide (p.1 < 0)) || (decide (p.2 < 0))) || (decide (n < p.1))) || (decide (n < p.2))) e36 (fun hc4 => ?_) (fun hc4 => ?_)
  · try simp only [Bool.and_eq_true, Bool.or_eq_true, decide_eq_true_eq, decide_eq_false_iff_not, Bool.not_eq_true', Bool.and_eq_false_iff, Bool.or_eq_false_iff, Bool.not_eq_false', Int.not_lt, Int.not_le, beq_iff_eq, selB] at hc4
    refine region_St (bf := [0]) (sp := [
        (det (Nw w) 12 (.int .i64 (3)))])
      [(Ini.any (Nw w)), (Ini.any (Nw w)), (iown SpanE 33 (Nw w) b9x10 (normF n (List.replicate i p)))] mixed st17 (by kernel_rfl) ⟨trivial, trivial, r2, trivial⟩
      ⟨Ob.det rfl rfl rfl (fun _ a_ _ _ c => r_assign rfl rfl),
       trivial⟩ ?_
    intro a18 w18 τ18 st18 f18
    replace e6 := f18.old e6 (by kernel_rfl)
    replace e10 := f18.old e10 (by kernel_rfl)
    replace e11 := f18.old e11 (by kernel_rfl)
    have e12 : get a18 12 = (.int .i64 (3)) := f18.v 0 rfl
    replace r2 : ownR SpanE 33 (normF n (List.replicate i p)) (τ18 2) b9x10 w18 := f18.iown 2 rfl rfl
    clear f18
    show _
    show Code.wp _ _ _ a18 w18
    refine wp_seq ?_
    refine region_St (bf := [0, 0, 3, 7, 15, 31, 63, 15, 143, 511, 1023, 2047, 4095, 8191, 16383]) (sp := [
        (det (Nw w) 57 (.int .i64 (normE n (List.replicate i p)))),
            (det (Nw w) 58 (.int .i64 (3))),
            (det (Nw w) 59 (.bool (decide (normE n (List.replicate i p) = 3)))),
            (det (Nw w) 60 (.bool (decide (normE n (List.replicate i p) = 3)))),
            (gdet (Nw w) 61 ((decide (normE n (List.replicate i p) = 3)) = true) b9x10),
            (gdet (Nw w) 62 ((decide (normE n (List.replicate i p) = 3)) = true) (.int .i64 (((normF n (List.replicate i p)).length : Int)))),
            (gdet (Nw w) 63 ((decide (normE n (List.replicate i p) = 3)) = true) (.bool (decide (0 < ((normF n (List.replicate i p)).length : Int))))),
            (gdet (Nw w) 64 ((decide (normE n (List.replicate i p) = 3)) = true) (.int .i64 (3))),
            (gdet (Nw w) 65 ((decide (normE n (List.replicate i p) = 3)) = true) (.bool (decide (3 = 0)))),
            (gdet (Nw w) 66 ((decide (normE n (List.replicate i p) = 3)) = true) (.bool ((decide (0 < ((normF n (List.replicate i p)).length : Int))) == (decide (3 = 0))))),
            (det (Nw w) 67 (.bool ((decide (normE n (List.replicate i p) = 3)) && ((decide (0 < ((normF n (List.replicate i p)).length : Int))) == (decide (3 = 0)))))),
            (det (Nw w) 68 (.bool ((decide (normE n (List.replicate i p) = 3)) && ((decide (0 < ((normF n (List.replicate i p)).length : Int))) == (decide (3 = 0)))))),
            (gdet (Nw w) 69 (((decide (normE n (List.replicate i p) = 3)) && ((decide (0 < ((normF n (List.replicate i p)).length : Int))) == (decide (3 = 0)))) = true) (.bool (true))),
            (det (Nw w) 70 (.bool (((decide (normE n (List.replicate i p) = 3)) && ((decide (0 < ((normF n (List.replicate i p)).length : Int))) == (decide (3 = 0)))) && true))),
            (det (Nw w) 6 (.bool (((decide (normE n (List.replicate i p) = 3)) && ((decide (0 < ((normF n (List.replicate i p)).length : Int))) == (decide (3 = 0)))) && true)))])
      [(Ini.any (Nw w)), (Ini.any (Nw w)), (iown SpanE 33 (Nw w) b9x10 (normF n (List.replicate i p)))] mixed st18 (by kernel_rfl) ⟨trivial, trivial, r2, trivial⟩
      ⟨Ob.det rfl rfl rfl (fun _ a_ _ _ c => r_move rfl (c.eo e11 (by kernel_rfl))),
           Ob.det rfl rfl rfl (fun _ a_ _ _ c => r_move rfl (c.eo e12 (by kernel_rfl))),
           Ob.det rfl rfl rfl (fun _ a_ _ _ c => r_eql rfl (c.ev 0 rfl rfl) (c.ev 1 rfl rfl)),
           Ob.det rfl rfl rfl (fun _ a_ _ _ c => r_move rfl (c.ev 2 rfl rfl)),
           Ob.gdet rfl rfl rfl rfl (gi := 3) (tg := 60) rfl rfl Iff.rfl (fun _ a_ _ _ c hpc => r_move rfl (c.eo e10 (by kernel_rfl))),
           Ob.gdet rfl rfl rfl rfl (gi := 3) (tg := 60) rfl rfl Iff.rfl (fun _ a_ _ _ c hpc => r_len rfl Try.underlying22 (c.eg 4 rfl rfl hpc) r2.isSl),
           Ob.gdet rfl rfl rfl rfl (gi := 3) (tg := 60) rfl rfl Iff.rfl (fun _ a_ _ _ c hpc => r_gtr rfl (c.eg 5 rfl rfl hpc) rfl),
           Ob.gdet rfl rfl rfl rfl (gi := 3) (tg := 60) rfl rfl Iff.rfl (fun _ a_ _ _ c hpc => r_move rfl (c.eo e12 (by kernel_rfl))),
           Ob.gdet rfl rfl rfl rfl (gi := 3) (tg := 60) rfl rfl Iff.rfl (fun _ a_ _ _ c hpc => r_eql rfl (c.eg 7 rfl rfl hpc) rfl),
           Ob.gdet rfl rfl rfl rfl (gi := 3) (tg := 60) rfl rfl Iff.rfl (fun _ a_ _ _ c hpc => r_beql rfl Try.underlying4 (c.eg 6 rfl rfl hpc) (c.eg 8 rfl rfl hpc)),
           Ob.det rfl rfl rfl (fun _ a_ _ _ c => r_and rfl (c.ev 3 rfl rfl) (fun h => (c.eg 9 rfl rfl h))),
           Ob.det rfl rfl rfl (fun _ a_ _ _ c => r_move rfl (c.ev 10 rfl rfl)),
           Ob.gcall rfl rfl rfl rfl (gi := 11) (tg := 68) rfl rfl Iff.rfl (fun _ a_ _ _ c hpc => ⟨_, _, (e_call0 rfl rfl Try.call9), awake_c _⟩),
           Ob.det rfl rfl rfl (fun _ a_ _ _ c => r_and rfl (c.ev 11 rfl rfl) (fun h => (c.eg 12 rfl rfl h))),
           Ob.det rfl rfl rfl (fun _ a_ _ _ c => r_assign rfl (c.ev 13 rfl rfl)),
       trivial⟩ ?_
    intro a19 w19 τ19 st19 f19
    have e6 : get a19 6 = (.bool (((decide (normE n (List.replicate i p) = 3)) && ((decide (0 < ((normF n (List.replicate i p)).length : Int))) == (decide (3 = 0)))) && true)) := f19.v 14 rfl
    replace e12 := f19.old e12 (by kernel_rfl)
    clear f19
    show Code.wp _ _ _ a19 w19
    refine wp_ret ?_
    repeat (first | with_reducible refine then_ret ?_ | with_reducible refine block_ret ?_)
    refine ret1 (fn := Try.f6) rfl st19.defers e6 ?_
    obtain rfl : i = k := by omega
    obtain ⟨k1, k2⟩ := codes_3 (n := n) (i := i) (p := p) (by omega) (by omega) (by omega)
    exact ⟨congrArg _ (congrArg _ (show (((decide (normE n (List.replicate i p) = 3)) && ((decide (0 < ((normF n (List.replicate i p)).length : Int))) == (decide (3 = 0)))) && true) = true from by rw [k1, k2]; rfl)), st19.ext0⟩
  try simp only [Bool.and_eq_true, Bool.or_eq_true, decide_eq_true_eq, decide_eq_false_iff_not, Bool.not_eq_true', Bool.and_eq_false_iff, Bool.or_eq_false_iff, Bool.not_eq_false', Int.not_lt, Int.not_le, beq_iff_eq, selB] at hc4
  refine wp_skip ?_
  show _
  show Code.wp _ _ _ a17 w17
  refine wp_seq ?_
  refine region_St (bf := [0, 0, 3, 7, 15, 31, 63, 15, 143, 511, 1023, 2047, 4095, 8191, 16383]) (sp := [
      (det (Nw w) 57 (.int .i64 (normE n (List.replicate i p)))),
        (det (Nw w) 58 (.int .i64 (0))),
        (det (Nw w) 59 (.bool (decide (normE n (List.replicate i p) = 0)))),
        (det (Nw w) 60 (.bool (decide (normE n (List.replicate i p) = 0)))),
        (gdet (Nw w) 61 ((decide (normE n (List.replicate i p) = 0)) = true) b9x10),
        (gdet (Nw w) 62 ((decide (normE n (List.replicate i p) = 0)) = true) (.int .i64 (((normF n (List.replicate i p)).length : Int)))),
        (gdet (Nw w) 63 ((decide (normE n (List.replicate i p) = 0)) = true) (.bool (decide (0 < ((normF n (List.replicate i p)).length : Int))))),
        (gdet (Nw w) 64 ((decide (normE n (List.replicate i p) = 0)) = true) (.int .i64 (0))),
        (gdet (Nw w) 65 ((decide (normE n (List.replicate i p) = 0)) = true) (.bool (decide (0 = 0)))),
        (gdet (Nw w) 66 ((decide (normE n (List.replicate i p) = 0)) = true) (.bool ((decide (0 < ((normF n (List.replicate i p)).length : Int))) == (decide (0 = 0))))),
        (det (Nw w) 67 (.bool ((decide (normE n (List.replicate i p) = 0)) && ((decide (0 < ((normF n (List.replicate i p)).length : Int))) == (decide (0 = 0)))))),
        (det (Nw w) 68 (.bool ((decide (normE n (List.replicate i p) = 0)) && ((decide (0 < ((normF n (List.replicate i p)).length : Int))) == (decide (0 = 0)))))),
        (gdet (Nw w) 69 (((decide (normE n (List.replicate i p) = 0)) && ((decide (0 < ((normF n (List.replicate i p)).length : Int))) == (decide (0 = 0)))) = true) (.bool (true))),
        (det (Nw w) 70 (.bool (((decide (normE n (List.replicate i p) = 0)) && ((decide (0 < ((normF n (List.replicate i p)).length : Int))) == (decide (0 = 0)))) && true))),
        (det (Nw w) 6 (.bool (((decide (normE n (List.replicate i p) = 0)) && ((decide (0 < ((normF n (List.replicate i p)).length : Int))) == (decide (0 = 0)))) && true)))])
    [(Ini.any (Nw w)), (Ini.any (Nw w)), (iown SpanE 33 (Nw w) b9x10 (normF n (List.replicate i p)))] mixed st17 (by kernel_rfl) ⟨trivial, trivial, r2, trivial⟩
    ⟨Ob.det rfl rfl rfl (fun _ a_ _ _ c => r_move rfl (c.eo e11 (by kernel_rfl))),
       Ob.det rfl rfl rfl (fun _ a_ _ _ c => r_move rfl (c.eo e12 (by kernel_rfl))),
       Ob.det rfl rfl rfl (fun _ a_ _ _ c => r_eql rfl (c.ev 0 rfl rfl) (c.ev 1 rfl rfl)),
       Ob.det rfl rfl rfl (fun _ a_ _ _ c => r_move rfl (c.ev 2 rfl rfl)),
       Ob.gdet rfl rfl rfl rfl (gi := 3) (tg := 60) rfl rfl Iff.rfl (fun _ a_ _ _ c hpc => r_move rfl (c.eo e10 (by kernel_rfl))),
       Ob.gdet rfl rfl rfl rfl (gi := 3) (tg := 60) rfl rfl Iff.rfl (fun _ a_ _ _ c hpc => r_len rfl Try.underlying22 (c.eg 4 rfl rfl hpc) r2.isSl),
       Ob.gdet rfl rfl rfl rfl (gi := 3) (tg := 60) rfl rfl Iff.rfl (fun _ a_ _ _ c hpc => r_gtr rfl (c.eg 5 rfl rfl hpc) rfl),
       Ob.gdet rfl rfl rfl rfl (gi := 3) (tg := 60) rfl rfl Iff.rfl (fun _ a_ _ _ c hpc => r_move rfl (c.eo e12 (by kernel_rfl))),
       Ob.gdet rfl rfl rfl rfl (gi := 3) (tg := 60) rfl rfl Iff.rfl (fun _ a_ _ _ c hpc => r_eql rfl (c.eg 7 rfl rfl hpc) rfl),
       Ob.gdet rfl rfl rfl rfl (gi := 3) (tg := 60) rfl rfl Iff.rfl (fun _ a_ _ _ c hpc => r_beql rfl Try.underlying4 (c.eg 6 rfl rfl hpc) (c.eg 8 rfl rfl hpc)),
       Ob.det rfl rfl rfl (fun _ a_ _ _ c => r_and rfl (c.ev 3 rfl rfl) (fun h => (c.eg 9 rfl rfl h))),
       Ob.det rfl rfl rfl (fun _ a_ _ _ c => r_move rfl (c.ev 10 rfl rfl)),
       Ob.gcall rfl rfl rfl rfl (gi := 11) (tg := 68) rfl rfl Iff.rfl (fun _ a_ _ _ c hpc => ⟨_, _, (e_call0 rfl rfl Try.call9), awake_c _⟩),
       Ob.det rfl rfl rfl (fun _ a_ _ _ c => r_and rfl (c.ev 11 rfl rfl) (fun h => (c.eg 12 rfl rfl h))),
       Ob.det rfl rfl rfl (fun _ a_ _ _ c => r_assign rfl (c.ev 13 rfl rfl)),
     trivial⟩ ?_
  intro a20 w20 τ20 st20 f20
  have e6 : get a20 6 = (.bool (((decide (normE n (List.replicate i p) = 0)) && ((decide (0 < ((normF n (List.replicate i p)).length : Int))) == (decide (0 = 0)))) && true)) := f20.v 14 rfl
  replace e12 := f20.old e12 (by kernel_rfl)
  clear f20
  show Code.wp _ _ _ a20 w20
  refine wp_ret ?_
  repeat (first | with_reducible refine then_ret ?_ | with_reducible refine block_ret ?_)
  refine ret1 (fn := Try.f6) rfl st20.defers e6 ?_
  obtain rfl : i = k := by omega
  obtain ⟨k1, k2⟩ := codes_0 (n := n) (i := i) (p := p) (by omega) (by omega) (by omega)
  exact ⟨congrArg _ (congrArg _ (show (((decide (normE n (List.replicate i p) = 0)) && ((decide (0 < ((normF n (List.replicate i p)).length : Int))) == (decide (0 = 0)))) && true) = true from by rw [k1, show decide ((0 : Int) < ((normF n (List.replicate i p)).length : Int)) = true from decide_eq_true (by omega)]; rfl)), st20.ext0⟩
end B
end Go.Proofs.Ytjapbdofhbfmfaa
