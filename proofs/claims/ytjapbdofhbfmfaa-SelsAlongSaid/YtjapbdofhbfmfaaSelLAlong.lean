/-
  Walks, printed by a program (gen.py): SelLAlong.
-/
import Derived.Test.YtjapbdofhbfmfaaSelQ
set_option linter.unusedSimpArgs false
set_option linter.unusedVariables false
namespace Go.Proofs.Ytjapbdofhbfmfaa
namespace B
open Go.RowKit
open Srt
set_option maxRecDepth 100000 in
theorem selsAlong_c (v : Value) (xs : List (Int × Int)) (n : Int) (w : World) (hS : SlT SpanE w v xs) : Calls Try.prog 7 #[v, (.int .i64 (n))] w (fun e w' => e = .returned (.bool (true)) ∧ Ext none' w w') := by
  refine enter (n := 111) Try.func7 rfl rfl (Nat.le_of_ble_eq_true rfl) ?_
  intro a0 τ0 ha st0
  have e0 : get a0 0 = v := ha 0 _ rfl
  have e1 : get a0 1 = (.int .i64 (n)) := ha 1 _ rfl
  clear ha
  have hle := hS.le
  have hsl := someF_len xs
  refine wp_seq ?_
  refine region_St (bf := [0]) (sp := [
      (det (Nw w) 4 (.bool (false)))])
    [] mixed st0 (by kernel_rfl) trivial
    ⟨Ob.det rfl rfl rfl (fun _ a_ _ _ c => r_assign rfl rfl),
     trivial⟩ ?_
  intro a1 w1 τ1 st1 f1
  replace e0 := f1.old e0 (by kernel_rfl)
  replace e1 := f1.old e1 (by kernel_rfl)
  have e4 : get a1 4 = (.bool (false)) := f1.v 0 rfl
  clear f1
  show Code.wp _ _ _ a1 w1
  refine wp_seq ?_
  refine wp_seq ?_
  refine region_St (bf := [0, 1, 3, 7, 15, 31, 63, 127]) (sp := [
      (det (Nw w) 14 v),
        (det (Nw w) 15 (.int .i64 ((xs.length : Int)))),
        (det (Nw w) 16 (.bool (decide ((xs.length : Int) = 0)))),
        (det (Nw w) 17 (.bool (decide ((xs.length : Int) = 0)))),
        (gdet (Nw w) 18 ((decide ((xs.length : Int) = 0)) = false) v),
        (gdet (Nw w) 19 ((decide ((xs.length : Int) = 0)) = false) (.int .i64 ((xs.length : Int)))),
        (gdet (Nw w) 20 ((decide ((xs.length : Int) = 0)) = false) (.bool (decide (64 < (xs.length : Int))))),
        (det (Nw w) 21 (.bool ((decide ((xs.length : Int) = 0)) || (decide (64 < (xs.length : Int))))))])
    [] mixed st1 (by kernel_rfl) trivial
    ⟨Ob.det rfl rfl rfl (fun _ a_ _ _ c => r_move rfl (c.eo e0 (by kernel_rfl))),
       Ob.det rfl rfl rfl (fun _ a_ _ _ c => r_len rfl Try.underlying23 (c.ev 0 rfl rfl) hS.sl),
       Ob.det rfl rfl rfl (fun _ a_ _ _ c => r_eql rfl (c.ev 1 rfl rfl) rfl),
       Ob.det rfl rfl rfl (fun _ a_ _ _ c => r_move rfl (c.ev 2 rfl rfl)),
       Ob.gdet rfl rfl rfl rfl (gi := 3) (tg := 17) rfl rfl Iff.rfl (fun _ a_ _ _ c hpc => r_move rfl (c.eo e0 (by kernel_rfl))),
       Ob.gdet rfl rfl rfl rfl (gi := 3) (tg := 17) rfl rfl Iff.rfl (fun _ a_ _ _ c hpc => r_len rfl Try.underlying23 (c.eg 4 rfl rfl hpc) hS.sl),
       Ob.gdet rfl rfl rfl rfl (gi := 3) (tg := 17) rfl rfl Iff.rfl (fun _ a_ _ _ c hpc => r_gtr rfl (c.eg 5 rfl rfl hpc) rfl),
       Ob.det rfl rfl rfl (fun _ a_ _ _ c => r_or rfl (c.ev 3 rfl rfl) (fun h => (c.eg 6 rfl rfl h))),
     trivial⟩ ?_
  intro a2 w2 τ2 st2 f2
  replace e0 := f2.old e0 (by kernel_rfl)
  replace e1 := f2.old e1 (by kernel_rfl)
  replace e4 := f2.old e4 (by kernel_rfl)
  have e21 : get a2 21 = (.bool ((decide ((xs.length : Int) = 0)) || (decide (64 < (xs.length : Int))))) := f2.v 7 rfl
  clear f2
  show Code.wp _ _ _ a2 w2
  refine wp_cond_split (t := (decide ((xs.length : Int) = 0)) || (decide (64 < (xs.length : Int)))) e21 (fun hc1 => ?_) (fun hc1 => ?_)
  · try simp only [Bool.and_eq_true, Bool.or_eq_true, decide_eq_true_eq, decide_eq_false_iff_not, Bool.not_eq_true', Bool.and_eq_false_iff, Bool.or_eq_false_iff, Bool.not_eq_false', Int.not_lt, Int.not_le, beq_iff_eq, selB] at hc1
    refine wp_seq ?_
    refine region_St (bf := [0, 1]) (sp := [
        (det (Nw w) 22 (.bool (true))),
            (det (Nw w) 4 (.bool (true)))])
      [] mixed st2 (by kernel_rfl) trivial
      ⟨Ob.call rfl rfl rfl (fun _ a_ _ _ c => ⟨_, _, (e_call0 rfl rfl Try.call9), awake_c _⟩),
           Ob.det rfl rfl rfl (fun _ a_ _ _ c => r_assign rfl (c.ev 0 rfl rfl)),
       trivial⟩ ?_
    intro a3 w3 τ3 st3 f3
    replace e0 := f3.old e0 (by kernel_rfl)
    replace e1 := f3.old e1 (by kernel_rfl)
    have e4 : get a3 4 = (.bool (true)) := f3.v 1 rfl
    clear f3
    show Code.wp _ _ _ a3 w3
    refine wp_ret ?_
    repeat (first | with_reducible refine then_ret ?_ | with_reducible refine block_ret ?_)
    refine ret1 (fn := Try.f7) rfl st3.defers e4 ?_
    exact ⟨rfl, st3.ext0⟩
  try simp only [Bool.and_eq_true, Bool.or_eq_true, decide_eq_true_eq, decide_eq_false_iff_not, Bool.not_eq_true', Bool.and_eq_false_iff, Bool.or_eq_false_iff, Bool.not_eq_false', Int.not_lt, Int.not_le, beq_iff_eq, selB] at hc1
  refine wp_skip ?_
  show Code.wp _ _ _ a2 w2
  refine wp_seq ?_
  refine region_St (bf := [0, 1, 3]) (sp := [
      (det (Nw w) 23 (.int .i64 (n))),
        (det (Nw w) 24 (.int .i64 (lowF n 901))),
        (det (Nw w) 5 (.int .i64 (lowF n 901)))])
    [] mixed st2 (by kernel_rfl) trivial
    ⟨Ob.det rfl rfl rfl (fun _ a_ _ _ c => r_move rfl (c.eo e1 (by kernel_rfl))),
       Ob.call rfl rfl rfl (fun _ a_ _ _ c => ⟨_, _, (e_call2 rfl rfl Try.call14 (c.ev 0 rfl rfl) rfl), low_c n 901 _ (by first | omega | (simp only [List.length_map] at *; omega)) (by first | omega | (simp only [List.length_map] at *; omega))⟩),
       Ob.det rfl rfl rfl (fun _ a_ _ _ c => r_assign rfl (c.ev 1 rfl rfl)),
     trivial⟩ ?_
  intro a4 w4 τ4 st4 f4
  replace e0 := f4.old e0 (by kernel_rfl)
  replace e4 := f4.old e4 (by kernel_rfl)
  have e5 : get a4 5 = (.int .i64 (lowF n 901)) := f4.v 2 rfl
  clear f4
  have hlow := low_range n 901 (by omega) (by omega)
  obtain ⟨k, hk⟩ : ∃ x_ : Nat, lowF n 901 = (x_ : Int) := ⟨(lowF n 901).toNat, by omega⟩
  replace e5 := e5.trans (int_eq hk)
  show Code.wp _ _ _ a4 w4
  refine wp_seq ?_
  refine region_St (bf := [0, 1, 3]) (sp := [
      (det (Nw w) 25 v),
        (own SpanE 33 (Nw w) 0 26 (someF xs)),
        (own SpanE 33 (Nw w) 0 6 (someF xs))])
    [] mixed st4 (by kernel_rfl) trivial
    ⟨Ob.det rfl rfl rfl (fun _ a_ _ _ c => r_move rfl (c.eo e0 (by kernel_rfl))),
       Ob.callOwn rfl rfl rfl (fun _ a_ _ _ c => ⟨_, _, (e_call1 rfl rfl Try.call12 (c.ev 0 rfl rfl)), some_c v xs _ (hS.at (st4.ext.trans c.J.ext)) (by first | omega | (simp only [List.length_map] at *; omega))⟩),
       Ob.moveT (t0 := 26) rfl rfl rfl rfl rfl (.inr rfl) (fun _ _ _ _ c => ⟨c.rown 1 rfl rfl (by kernel_rfl), rfl⟩),
     trivial⟩ ?_
  intro a5 w5 τ5 st5 f5
  obtain ⟨b5x6, e6⟩ : ∃ b, get a5 6 = b := ⟨_, rfl⟩
  replace e4 := f5.old e4 (by kernel_rfl)
  replace e5 := f5.old e5 (by kernel_rfl)
  have r0 : ownR SpanE 33 (someF xs) (τ5 0) b5x6 w5 := f5.rown 2 rfl rfl e6
  clear f5
  show Code.wp _ _ _ a5 w5
  refine wp_seq ?_
  refine region_St (bf := [0]) (sp := [
      (det (Nw w) 7 (.slice none 0 0))])
    [(iown SpanE 33 (Nw w) b5x6 (someF xs))] mixed st5 (by kernel_rfl) ⟨r0, trivial⟩
    ⟨Ob.det rfl rfl rfl (fun _ a_ _ _ c => r_assign rfl rfl),
     trivial⟩ ?_
  intro a6 w6 τ6 st6 f6
  replace e4 := f6.old e4 (by kernel_rfl)
  replace e5 := f6.old e5 (by kernel_rfl)
  replace e6 := f6.old e6 (by kernel_rfl)
  have e7 : get a6 7 = (.slice none 0 0) := f6.v 0 rfl
  replace r0 : ownR SpanE 33 (someF xs) (τ6 0) b5x6 w6 := f6.iown 0 rfl rfl
  clear f6
  show Code.wp _ _ _ a6 w6
  refine wp_seq ?_
  refine wp_seq ?_
  refine region_St (bf := [0]) (sp := [
      (det (Nw w) 8 (.int .i64 (0)))])
    [(iown SpanE 33 (Nw w) b5x6 (someF xs))] mixed st6 (by kernel_rfl) ⟨r0, trivial⟩
    ⟨Ob.det rfl rfl rfl (fun _ a_ _ _ c => r_assign rfl rfl),
     trivial⟩ ?_
  intro a7 w7 τ7 st7 f7
  replace e4 := f7.old e4 (by kernel_rfl)
  replace e5 := f7.old e5 (by kernel_rfl)
  replace e6 := f7.old e6 (by kernel_rfl)
  replace e7 := f7.old e7 (by kernel_rfl)
  have e8 : get a7 8 = (.int .i64 (0)) := f7.v 0 rfl
  replace r0 : ownR SpanE 33 (someF xs) (τ7 0) b5x6 w7 := f7.iown 0 rfl rfl
  clear f7
  show Code.wp _ _ _ a7 w7
  refine wp_block ?_
  refine wp_loop (fun a_ w_ => ∃ (i : Nat) (o : Value) (τ : Nat → Foot), (i ≤ xs.length) ∧
        St (Nw w) w 111 a_ w_ τ ∧
        get a_ 7 = o ∧
        get a_ 8 = (.int .i64 ((i : Int))) ∧
        get a_ 4 = (.bool (false)) ∧
        get a_ 5 = (.int .i64 ((k : Int))) ∧
        get a_ 6 = b5x6 ∧
        ownR SpanE 33 (((someF xs).take i).map (shift (k : Int))) (τ 3) o w_ ∧
        ownR SpanE 33 (someF xs) (τ 0) b5x6 w_) (fun a_ _ => xs.length - (intOf (get a_ 8)).toNat) ?_ ?_
  · refine ⟨0, (.slice none 0 0), τ7, ?_, st7, e7, (e8.trans (int_eq (by omega))), e4, e5, e6, ?_, r0⟩
    · omega
    · exact ownR.nil _ _ _ _
  intro a8 w8 hI
  obtain ⟨i, o, τ8, q0, st8, e7, e8, e4, e5, e6, r3, r0⟩ := hI
  have hml := @List.length_map _ _ ((someF xs).take i) (shift (k : Int))
  have htl := List.length_take_le i (someF xs)
  have hbd := some_at (xs := xs) (i := i)
  have m8 := e8
  refine wp_seq ?_
  refine wp_seq ?_
  refine region_St (bf := [0, 0, 2, 7]) (sp := [
      (det (Nw w) 27 (.int .i64 ((i : Int)))),
        (det (Nw w) 28 b5x6),
        (det (Nw w) 29 (.int .i64 (((someF xs).length : Int)))),
        (det (Nw w) 30 (.bool (decide ((i : Int) < ((someF xs).length : Int)))))])
    [(iown SpanE 33 (Nw w) b5x6 (someF xs)), (Ini.any (Nw w)), (Ini.any (Nw w)), (iown SpanE 33 (Nw w) o (((someF xs).take i).map (shift (k : Int))))] mixed st8 (by kernel_rfl) ⟨r0, trivial, trivial, r3, trivial⟩
    ⟨Ob.det rfl rfl rfl (fun _ a_ _ _ c => r_move rfl (c.eo e8 (by kernel_rfl))),
       Ob.det rfl rfl rfl (fun _ a_ _ _ c => r_move rfl (c.eo e6 (by kernel_rfl))),
       Ob.det rfl rfl rfl (fun _ a_ _ _ c => r_len rfl Try.underlying22 (c.ev 1 rfl rfl) r0.isSl),
       Ob.det rfl rfl rfl (fun _ a_ _ _ c => r_lss rfl (c.ev 0 rfl rfl) (c.ev 2 rfl rfl)),
     trivial⟩ ?_
  intro a9 w9 τ9 st9 f9
  replace e4 := f9.old e4 (by kernel_rfl)
  replace e5 := f9.old e5 (by kernel_rfl)
  replace e6 := f9.old e6 (by kernel_rfl)
  replace e7 := f9.old e7 (by kernel_rfl)
  replace e8 := f9.old e8 (by kernel_rfl)
  have e30 : get a9 30 = (.bool (decide ((i : Int) < ((someF xs).length : Int)))) := f9.v 3 rfl
  replace r0 : ownR SpanE 33 (someF xs) (τ9 0) b5x6 w9 := f9.iown 0 rfl rfl
  replace r3 : ownR SpanE 33 (((someF xs).take i).map (shift (k : Int))) (τ9 3) o w9 := f9.iown 3 rfl rfl
  clear f9
  show Code.wp _ _ _ a9 w9
  refine wp_cond_split (t := decide ((i : Int) < ((someF xs).length : Int))) e30 (fun hc2 => ?_) (fun hc2 => ?_)
  · try simp only [Bool.and_eq_true, Bool.or_eq_true, decide_eq_true_eq, decide_eq_false_iff_not, Bool.not_eq_true', Bool.and_eq_false_iff, Bool.or_eq_false_iff, Bool.not_eq_false', Int.not_lt, Int.not_le, beq_iff_eq, selB] at hc2
    refine wp_skip ?_
    show Code.wp _ _ _ a9 w9
    refine wp_seq ?_
    refine wp_block ?_
    refine region_St (bf := [0, 0, 0, 6, 14, 30, 0, 126, 0, 0, 768, 1792, 3840, 0, 16128, 32766, 65534, 131071, 262143]) (sp := [
        (det (Nw w) 33 o),
            (det (Nw w) 34 b5x6),
            (det (Nw w) 35 (.int .i64 ((i : Int)))),
            (det (Nw w) 36 (.pointer (some ((ptrOf b5x6).add (((i : Int) : Int).toNat * 2))))),
            (det (Nw w) 37 (.pointer (some (((ptrOf b5x6).add (((i : Int) : Int).toNat * 2)).add 0)))),
            (det (Nw w) 38 (.int .i64 ((nth (someF xs) ((i : Int))).1))),
            (det (Nw w) 39 (.int .i64 ((k : Int)))),
            (det (Nw w) 40 (.int .i64 ((nth (someF xs) ((i : Int))).1 + (k : Int)))),
            (det (Nw w) 41 b5x6),
            (det (Nw w) 42 (.int .i64 ((i : Int)))),
            (det (Nw w) 43 (.pointer (some ((ptrOf b5x6).add (((i : Int) : Int).toNat * 2))))),
            (det (Nw w) 44 (.pointer (some (((ptrOf b5x6).add (((i : Int) : Int).toNat * 2)).add 1)))),
            (det (Nw w) 45 (.int .i64 ((nth (someF xs) ((i : Int))).2))),
            (det (Nw w) 46 (.int .i64 ((k : Int)))),
            (det (Nw w) 47 (.int .i64 ((nth (someF xs) ((i : Int))).2 + (k : Int)))),
            (det (Nw w) 48 (.agg #[(.int .i64 ((nth (someF xs) ((i : Int))).1 + (k : Int))), (.int .i64 ((nth (someF xs) ((i : Int))).2 + (k : Int)))])),
            (own SpanE 33 (Nw w) 1 49 ([((nth (someF xs) ((i : Int))).1 + (k : Int), (nth (someF xs) ((i : Int))).2 + (k : Int))])),
            (own SpanE 33 (Nw w) 3 50 ((((someF xs).take i).map (shift (k : Int))) ++ ([((nth (someF xs) ((i : Int))).1 + (k : Int), (nth (someF xs) ((i : Int))).2 + (k : Int))]))),
            (own SpanE 33 (Nw w) 3 7 ((((someF xs).take i).map (shift (k : Int))) ++ ([((nth (someF xs) ((i : Int))).1 + (k : Int), (nth (someF xs) ((i : Int))).2 + (k : Int))])))])
      [(iown SpanE 33 (Nw w) b5x6 (someF xs)), (Ini.any (Nw w)), (Ini.any (Nw w)), (iown SpanE 33 (Nw w) o (((someF xs).take i).map (shift (k : Int))))] mixed st9 (by kernel_rfl) ⟨r0, trivial, trivial, r3, trivial⟩
      ⟨Ob.det rfl rfl rfl (fun _ a_ _ _ c => r_move rfl (c.eo e7 (by kernel_rfl))),
           Ob.det rfl rfl rfl (fun _ a_ _ _ c => r_move rfl (c.eo e6 (by kernel_rfl))),
           Ob.det rfl rfl rfl (fun _ a_ _ _ c => r_move rfl (c.eo e8 (by kernel_rfl))),
           Ob.det rfl rfl rfl (fun _ a_ _ _ c => r_indexAddr rfl Try.underlying22 Try.sizeOf33 (c.ev 1 rfl rfl) r0.isSl (c.ev 2 rfl rfl) (by first | omega | (simp only [List.length_map] at *; omega)) (by first | omega | (simp only [List.length_map] at *; omega))),
           Ob.det rfl rfl rfl (fun _ a_ _ _ c => r_fieldAddr rfl Try.underlying33 rfl rfl Try.sizeOf3 (c.ev 3 rfl rfl)),
           Ob.det rfl rfl rfl (fun _ a_ _ _ c => r_load1 rfl Try.isAgg3 (c.ev 4 rfl rfl) (((c.iown 0 rfl rfl (by kernel_rfl)).1.sl).elem (j := 0) (nth_some (by first | omega | (simp only [List.length_map] at *; omega)) (by first | omega | (simp only [List.length_map] at *; omega))) rfl)),
           Ob.det rfl rfl rfl (fun _ a_ _ _ c => r_move rfl (c.eo e5 (by kernel_rfl))),
           Ob.det rfl rfl rfl (fun _ a_ _ _ c => r_add rfl (c.ev 5 rfl rfl) (c.ev 6 rfl rfl) (by first | omega | (simp only [List.length_map] at *; omega))),
           Ob.det rfl rfl rfl (fun _ a_ _ _ c => r_move rfl (c.eo e6 (by kernel_rfl))),
           Ob.det rfl rfl rfl (fun _ a_ _ _ c => r_move rfl (c.eo e8 (by kernel_rfl))),
           Ob.det rfl rfl rfl (fun _ a_ _ _ c => r_indexAddr rfl Try.underlying22 Try.sizeOf33 (c.ev 8 rfl rfl) r0.isSl (c.ev 9 rfl rfl) (by first | omega | (simp only [List.length_map] at *; omega)) (by first | omega | (simp only [List.length_map] at *; omega))),
           Ob.det rfl rfl rfl (fun _ a_ _ _ c => r_fieldAddr rfl Try.underlying33 rfl rfl Try.sizeOf3 (c.ev 10 rfl rfl)),
           Ob.det rfl rfl rfl (fun _ a_ _ _ c => r_load1 rfl Try.isAgg3 (c.ev 11 rfl rfl) (((c.iown 0 rfl rfl (by kernel_rfl)).1.sl).elem (j := 1) (nth_some (by first | omega | (simp only [List.length_map] at *; omega)) (by first | omega | (simp only [List.length_map] at *; omega))) rfl)),
           Ob.det rfl rfl rfl (fun _ a_ _ _ c => r_move rfl (c.eo e5 (by kernel_rfl))),
           Ob.det rfl rfl rfl (fun _ a_ _ _ c => r_add rfl (c.ev 12 rfl rfl) (c.ev 13 rfl rfl) (by first | omega | (simp only [List.length_map] at *; omega))),
           Ob.det rfl rfl rfl (fun _ a_ _ _ c => r_build (cells := #[(.int .i64 ((nth (someF xs) ((i : Int))).1 + (k : Int))), (.int .i64 ((nth (someF xs) ((i : Int))).2 + (k : Int)))]) rfl Try.underlying33 Try.zeroValue33 (pl := #[(0, 1), (1, 1)]) (fun w_ => by simp [Try.sizeOf3]) (by simp only [List.map_toArray, List.map_cons, List.map_nil, (show a_.eval (.tmp 40) = (.int .i64 ((nth (someF xs) ((i : Int))).1 + (k : Int))) from (c.ev 7 rfl rfl)), (show a_.eval (.tmp 47) = (.int .i64 ((nth (someF xs) ((i : Int))).2 + (k : Int))) from (c.ev 14 rfl rfl))]; rfl)),
           Ob.buildSlice (cells := #[(.int .i64 ((nth (someF xs) ((i : Int))).1 + (k : Int))), (.int .i64 ((nth (someF xs) ((i : Int))).2 + (k : Int)))]) rfl rfl rfl rfl Try.underlying22 Try.sizeOf33 Try.zeroValue33 rfl (by decide) (by decide) (fun _ a_ _ _ c => by simp only [List.map_toArray, List.map_cons, List.map_nil, (show a_.eval (.tmp 48) = (.agg #[(.int .i64 ((nth (someF xs) ((i : Int))).1 + (k : Int))), (.int .i64 ((nth (someF xs) ((i : Int))).2 + (k : Int)))]) from (c.ev 15 rfl rfl))]; kernel_rfl) rfl,
           Ob.append (t0 := 7) rfl rfl rfl rfl Try.underlying22 (i := Try.t33) rfl rfl rfl rfl (by simp only [maxLen]; (try simp); omega) (by show _ * 16 ≤ _; (try simp); omega) (fun _ _ _ _ c => ⟨by rw [(show get _ 7 = o from c.old e7 (by kernel_rfl))]; exact c.iown 3 rfl rfl (by kernel_rfl), (c.ev 0 rfl rfl).trans (show o = get _ 7 from (c.old e7 (by kernel_rfl)).symm), ⟨_, rfl, (c.rown 16 rfl rfl (by kernel_rfl)).1.sl⟩⟩),
           Ob.moveT (t0 := 50) rfl rfl rfl rfl rfl (.inr rfl) (fun _ _ _ _ c => ⟨c.rown 17 rfl rfl (by kernel_rfl), rfl⟩),
       trivial⟩ ?_
    intro a10 w10 τ10 st10 f10
    obtain ⟨b10x49, e49⟩ : ∃ b, get a10 49 = b := ⟨_, rfl⟩
    obtain ⟨b10x7, e7⟩ : ∃ b, get a10 7 = b := ⟨_, rfl⟩
    replace e4 := f10.old e4 (by kernel_rfl)
    replace e5 := f10.old e5 (by kernel_rfl)
    replace e6 := f10.old e6 (by kernel_rfl)
    replace e8 := f10.old e8 (by kernel_rfl)
    replace e30 := f10.old e30 (by kernel_rfl)
    replace r0 : ownR SpanE 33 (someF xs) (τ10 0) b5x6 w10 := f10.iown 0 rfl rfl
    have r1 : ownR SpanE 33 ([((nth (someF xs) ((i : Int))).1 + (k : Int), (nth (someF xs) ((i : Int))).2 + (k : Int))]) (τ10 1) b10x49 w10 := f10.rown 16 rfl rfl e49
    have r3 : ownR SpanE 33 ((((someF xs).take i).map (shift (k : Int))) ++ ([((nth (someF xs) ((i : Int))).1 + (k : Int), (nth (someF xs) ((i : Int))).2 + (k : Int))])) (τ10 3) b10x7 w10 := f10.rown 18 rfl rfl e7
    clear f10
    show _
    show Code.wp _ _ _ a10 w10
    refine region_St (bf := [0, 1, 3]) (sp := [
        (det (Nw w) 31 (.int .i64 ((i : Int)))),
            (det (Nw w) 32 (.int .i64 ((i : Int) + 1))),
            (det (Nw w) 8 (.int .i64 ((i : Int) + 1)))])
      [(iown SpanE 33 (Nw w) b5x6 (someF xs)), (iown SpanE 33 (Nw w) b10x49 ([((nth (someF xs) ((i : Int))).1 + (k : Int), (nth (someF xs) ((i : Int))).2 + (k : Int))])), (Ini.any (Nw w)), (iown SpanE 33 (Nw w) b10x7 ((((someF xs).take i).map (shift (k : Int))) ++ ([((nth (someF xs) ((i : Int))).1 + (k : Int), (nth (someF xs) ((i : Int))).2 + (k : Int))])))] mixed st10 (by kernel_rfl) ⟨r0, r1, trivial, r3, trivial⟩
      ⟨Ob.det rfl rfl rfl (fun _ a_ _ _ c => r_move rfl (c.eo e8 (by kernel_rfl))),
           Ob.det rfl rfl rfl (fun _ a_ _ _ c => r_add rfl (c.ev 0 rfl rfl) rfl (by first | omega | (simp only [List.length_map] at *; omega))),
           Ob.det rfl rfl rfl (fun _ a_ _ _ c => r_assign rfl (c.ev 1 rfl rfl)),
       trivial⟩ ?_
    intro a11 w11 τ11 st11 f11
    replace e4 := f11.old e4 (by kernel_rfl)
    replace e5 := f11.old e5 (by kernel_rfl)
    replace e6 := f11.old e6 (by kernel_rfl)
    replace e7 := f11.old e7 (by kernel_rfl)
    have e8 : get a11 8 = (.int .i64 ((i : Int) + 1)) := f11.v 2 rfl
    replace e30 := f11.old e30 (by kernel_rfl)
    replace r0 : ownR SpanE 33 (someF xs) (τ11 0) b5x6 w11 := f11.iown 0 rfl rfl
    replace r1 : ownR SpanE 33 ([((nth (someF xs) ((i : Int))).1 + (k : Int), (nth (someF xs) ((i : Int))).2 + (k : Int))]) (τ11 1) b10x49 w11 := f11.iown 1 rfl rfl
    replace r3 : ownR SpanE 33 ((((someF xs).take i).map (shift (k : Int))) ++ ([((nth (someF xs) ((i : Int))).1 + (k : Int), (nth (someF xs) ((i : Int))).2 + (k : Int))])) (τ11 3) b10x7 w11 := f11.iown 3 rfl rfl
    clear f11
    refine ⟨⟨i + 1, b10x7, τ11, ?_, st11, e7, (e8.trans (int_eq (by omega))), e4, e5, e6, ?_, r0⟩, ?_⟩
    · omega
    · exact r3.cast (by exact map_succ (by omega))
    · simp only [m8, e8, intOf]; omega
  try simp only [Bool.and_eq_true, Bool.or_eq_true, decide_eq_true_eq, decide_eq_false_iff_not, Bool.not_eq_true', Bool.and_eq_false_iff, Bool.or_eq_false_iff, Bool.not_eq_false', Int.not_lt, Int.not_le, beq_iff_eq, selB] at hc2
  refine wp_exit ?_
  repeat (with_reducible refine then_exit ?_)
  refine exit_here ?_
  show Code.wp _ _ _ a9 w9
  refine wp_seq ?_
  refine region_St (bf := [0, 1, 3, 7, 7, 15, 63]) (sp := [
      (det (Nw w) 52 b5x6),
        (tup SpanE 33 (Nw w) 1 53 (normF 60 (someF xs)) (.int .i64 (normE 60 (someF xs)))),
        (tup SpanE 33 (Nw w) 1 51 (normF 60 (someF xs)) (.int .i64 (normE 60 (someF xs)))),
        (own SpanE 33 (Nw w) 1 54 (normF 60 (someF xs))),
        (det (Nw w) 55 (.int .i64 (normE 60 (someF xs)))),
        (own SpanE 33 (Nw w) 1 9 (normF 60 (someF xs))),
        (det (Nw w) 10 (.int .i64 (normE 60 (someF xs))))])
    [(iown SpanE 33 (Nw w) b5x6 (someF xs)), (Ini.any (Nw w)), (Ini.any (Nw w)), (iown SpanE 33 (Nw w) o (((someF xs).take i).map (shift (k : Int))))] mixed st9 (by kernel_rfl) ⟨r0, trivial, trivial, r3, trivial⟩
    ⟨Ob.det rfl rfl rfl (fun _ a_ _ _ c => r_move rfl (c.eo e6 (by kernel_rfl))),
       Ob.callTup rfl rfl rfl (fun _ a_ _ _ c => ⟨_, _, (e_call2 rfl rfl Try.call10 rfl (c.ev 0 rfl rfl)), norm_c 60 b5x6 (someF xs) _ (c.iown 0 rfl rfl (by kernel_rfl)).1.sl⟩),
       Ob.moveT (t0 := 53) rfl rfl rfl rfl rfl (.inl rfl) (fun _ _ _ _ c => ⟨c.rtup 1 rfl rfl (by kernel_rfl), rfl⟩),
       Ob.part0 (t0 := 51) (k := (.int .i64 (normE 60 (someF xs)))) rfl rfl rfl rfl (fun _ _ _ _ c => c.rtup 2 rfl rfl (by kernel_rfl)),
       Ob.det rfl rfl rfl (fun _ a_ _ _ c => c.part1 2 rfl rfl rfl),
       Ob.moveT (t0 := 54) rfl rfl rfl rfl rfl (.inr rfl) (fun _ _ _ _ c => ⟨c.rown 3 rfl rfl (by kernel_rfl), rfl⟩),
       Ob.det rfl rfl rfl (fun _ a_ _ _ c => r_assign rfl (c.ev 4 rfl rfl)),
     trivial⟩ ?_
  intro a12 w12 τ12 st12 f12
  obtain ⟨b12x9, e9⟩ : ∃ b, get a12 9 = b := ⟨_, rfl⟩
  replace e4 := f12.old e4 (by kernel_rfl)
  replace e5 := f12.old e5 (by kernel_rfl)
  replace e7 := f12.old e7 (by kernel_rfl)
  have e10 : get a12 10 = (.int .i64 (normE 60 (someF xs))) := f12.v 6 rfl
  have r1 : ownR SpanE 33 (normF 60 (someF xs)) (τ12 1) b12x9 w12 := f12.rown 5 rfl rfl e9
  replace r3 : ownR SpanE 33 (((someF xs).take i).map (shift (k : Int))) (τ12 3) o w12 := f12.iown 3 rfl rfl
  clear f12
  replace e10 := e10.trans (congrArg (Value.int .i64) (show normE 60 (someF xs) = (0 : Int) from norm_some (by omega) (by omega)))
  replace r1 := r1.cast (show ordF (someF xs) = normF 60 (someF xs) from by exact (normF_zero (norm_some (by omega) (by omega))).symm)
  replace r3 := r3.cast (show (someF xs).map (shift (k : Int)) = ((someF xs).take i).map (shift (k : Int)) from by rw [List.take_of_length_le (by omega)])
  have hol := ordF_le (someF xs)
  show Code.wp _ _ _ a12 w12
  refine wp_seq ?_
  refine region_St (bf := [0, 1, 0, 7, 15, 31, 31, 63, 255]) (sp := [
      (det (Nw w) 57 (.int .i64 ((k : Int)))),
        (det (Nw w) 58 (.int .i64 (60 + (k : Int)))),
        (det (Nw w) 59 o),
        (tup SpanE 33 (Nw w) 0 60 (normF (60 + (k : Int)) ((someF xs).map (shift (k : Int)))) (.int .i64 (normE (60 + (k : Int)) ((someF xs).map (shift (k : Int)))))),
        (tup SpanE 33 (Nw w) 0 56 (normF (60 + (k : Int)) ((someF xs).map (shift (k : Int)))) (.int .i64 (normE (60 + (k : Int)) ((someF xs).map (shift (k : Int)))))),
        (own SpanE 33 (Nw w) 0 61 (normF (60 + (k : Int)) ((someF xs).map (shift (k : Int))))),
        (det (Nw w) 62 (.int .i64 (normE (60 + (k : Int)) ((someF xs).map (shift (k : Int)))))),
        (own SpanE 33 (Nw w) 0 11 (normF (60 + (k : Int)) ((someF xs).map (shift (k : Int))))),
        (det (Nw w) 12 (.int .i64 (normE (60 + (k : Int)) ((someF xs).map (shift (k : Int))))))])
    [(Ini.any (Nw w)), (iown SpanE 33 (Nw w) b12x9 (ordF (someF xs))), (Ini.any (Nw w)), (iown SpanE 33 (Nw w) o ((someF xs).map (shift (k : Int))))] mixed st12 (by kernel_rfl) ⟨trivial, r1, trivial, r3, trivial⟩
    ⟨Ob.det rfl rfl rfl (fun _ a_ _ _ c => r_move rfl (c.eo e5 (by kernel_rfl))),
       Ob.det rfl rfl rfl (fun _ a_ _ _ c => r_add rfl rfl (c.ev 0 rfl rfl) (by first | omega | (simp only [List.length_map] at *; omega))),
       Ob.det rfl rfl rfl (fun _ a_ _ _ c => r_move rfl (c.eo e7 (by kernel_rfl))),
       Ob.callTup rfl rfl rfl (fun _ a_ _ _ c => ⟨_, _, (e_call2 rfl rfl Try.call10 (c.ev 1 rfl rfl) (c.ev 2 rfl rfl)), norm_c (60 + (k : Int)) o ((someF xs).map (shift (k : Int))) _ (c.iown 3 rfl rfl (by kernel_rfl)).1.sl⟩),
       Ob.moveT (t0 := 60) rfl rfl rfl rfl rfl (.inl rfl) (fun _ _ _ _ c => ⟨c.rtup 3 rfl rfl (by kernel_rfl), rfl⟩),
       Ob.part0 (t0 := 56) (k := (.int .i64 (normE (60 + (k : Int)) ((someF xs).map (shift (k : Int)))))) rfl rfl rfl rfl (fun _ _ _ _ c => c.rtup 4 rfl rfl (by kernel_rfl)),
       Ob.det rfl rfl rfl (fun _ a_ _ _ c => c.part1 4 rfl rfl rfl),
       Ob.moveT (t0 := 61) rfl rfl rfl rfl rfl (.inr rfl) (fun _ _ _ _ c => ⟨c.rown 5 rfl rfl (by kernel_rfl), rfl⟩),
       Ob.det rfl rfl rfl (fun _ a_ _ _ c => r_assign rfl (c.ev 6 rfl rfl)),
     trivial⟩ ?_
  intro a13 w13 τ13 st13 f13
  obtain ⟨b13x11, e11⟩ : ∃ b, get a13 11 = b := ⟨_, rfl⟩
  replace e4 := f13.old e4 (by kernel_rfl)
  replace e5 := f13.old e5 (by kernel_rfl)
  replace e9 := f13.old e9 (by kernel_rfl)
  replace e10 := f13.old e10 (by kernel_rfl)
  have e12 : get a13 12 = (.int .i64 (normE (60 + (k : Int)) ((someF xs).map (shift (k : Int))))) := f13.v 8 rfl
  have r0 : ownR SpanE 33 (normF (60 + (k : Int)) ((someF xs).map (shift (k : Int)))) (τ13 0) b13x11 w13 := f13.rown 7 rfl rfl e11
  replace r1 : ownR SpanE 33 (ordF (someF xs)) (τ13 1) b12x9 w13 := f13.iown 1 rfl rfl
  clear f13
  replace e12 := e12.trans (congrArg (Value.int .i64) (show normE (60 + (k : Int)) ((someF xs).map (shift (k : Int))) = (0 : Int) from norm_shift (by omega) (by omega)))
  replace r0 := r0.cast (show (ordF (someF xs)).map (shift (k : Int)) = normF (60 + (k : Int)) ((someF xs).map (shift (k : Int))) from by rw [normF_zero (norm_shift (by omega) (by omega)), ordF_shift])
  have hml2 := @List.length_map _ _ (ordF (someF xs)) (shift (k : Int))
  show Code.wp _ _ _ a13 w13
  refine wp_seq ?_
  refine wp_seq ?_
  refine region_St (bf := [0, 1, 3, 7, 15, 31, 63, 127, 255, 127, 639, 2047, 4095]) (sp := [
      (det (Nw w) 63 (.int .i64 (0))),
        (det (Nw w) 64 (.bool (false))),
        (det (Nw w) 65 (.bool (false))),
        (det (Nw w) 66 (.int .i64 (0))),
        (det (Nw w) 67 (.bool (false))),
        (det (Nw w) 68 (.bool (false))),
        (det (Nw w) 69 (.bool (false))),
        (det (Nw w) 70 b12x9),
        (det (Nw w) 71 (.int .i64 (((ordF (someF xs)).length : Int)))),
        (det (Nw w) 72 b13x11),
        (det (Nw w) 73 (.int .i64 ((((ordF (someF xs)).map (shift (k : Int))).length : Int)))),
        (det (Nw w) 74 (.bool (false))),
        (det (Nw w) 75 (.bool (false)))])
    [(iown SpanE 33 (Nw w) b13x11 ((ordF (someF xs)).map (shift (k : Int)))), (iown SpanE 33 (Nw w) b12x9 (ordF (someF xs)))] mixed st13 (by kernel_rfl) ⟨r0, r1, trivial⟩
    ⟨Ob.det rfl rfl rfl (fun _ a_ _ _ c => r_move rfl (c.eo e10 (by kernel_rfl))),
       Ob.det rfl rfl rfl (fun _ a_ _ _ c => Runs.isB (b := !decide (0 = 0)) (r_neq rfl (c.ev 0 rfl rfl) rfl) (by decide)),
       Ob.det rfl rfl rfl (fun _ a_ _ _ c => r_move rfl (c.ev 1 rfl rfl)),
       Ob.live (gi := 2) (tg := 65) rfl rfl rfl rfl (Ob.det rfl rfl rfl (fun _ a_ _ _ c => r_move rfl (c.eo e12 (by kernel_rfl)))),
       Ob.live (gi := 2) (tg := 65) rfl rfl rfl rfl (Ob.det rfl rfl rfl (fun _ a_ _ _ c => Runs.isB (b := !decide (0 = 0)) (r_neq rfl (c.ev 3 rfl rfl) rfl) (by decide))),
       Ob.det rfl rfl rfl (fun _ a_ _ _ c => r_pick rfl (c.ev 2 rfl rfl) (fun h => by cases h) (fun _ => (c.ev 4 rfl rfl))),
       Ob.det rfl rfl rfl (fun _ a_ _ _ c => r_move rfl (c.ev 5 rfl rfl)),
       Ob.live (gi := 6) (tg := 69) rfl rfl rfl rfl (Ob.det rfl rfl rfl (fun _ a_ _ _ c => r_move rfl (c.eo e9 (by kernel_rfl)))),
       Ob.live (gi := 6) (tg := 69) rfl rfl rfl rfl (Ob.det rfl rfl rfl (fun _ a_ _ _ c => r_len rfl Try.underlying22 (c.ev 7 rfl rfl) r1.isSl)),
       Ob.live (gi := 6) (tg := 69) rfl rfl rfl rfl (Ob.det rfl rfl rfl (fun _ a_ _ _ c => r_move rfl (c.eo e11 (by kernel_rfl)))),
       Ob.live (gi := 6) (tg := 69) rfl rfl rfl rfl (Ob.det rfl rfl rfl (fun _ a_ _ _ c => r_len rfl Try.underlying22 (c.ev 9 rfl rfl) r0.isSl)),
       Ob.live (gi := 6) (tg := 69) rfl rfl rfl rfl (Ob.det rfl rfl rfl (fun _ a_ _ _ c => Runs.isB (b := !decide (((ordF (someF xs)).length : Int) = (((ordF (someF xs)).map (shift (k : Int))).length : Int))) (r_neq rfl (c.ev 8 rfl rfl) (c.ev 10 rfl rfl)) (by rw [List.length_map]; simp))),
       Ob.det rfl rfl rfl (fun _ a_ _ _ c => r_pick rfl (c.ev 6 rfl rfl) (fun h => by cases h) (fun _ => (c.ev 11 rfl rfl))),
     trivial⟩ ?_
  intro a14 w14 τ14 st14 f14
  replace e4 := f14.old e4 (by kernel_rfl)
  replace e5 := f14.old e5 (by kernel_rfl)
  replace e9 := f14.old e9 (by kernel_rfl)
  replace e11 := f14.old e11 (by kernel_rfl)
  have e75 : get a14 75 = (.bool (false)) := f14.v 12 rfl
  replace r0 : ownR SpanE 33 ((ordF (someF xs)).map (shift (k : Int))) (τ14 0) b13x11 w14 := f14.iown 0 rfl rfl
  replace r1 : ownR SpanE 33 (ordF (someF xs)) (τ14 1) b12x9 w14 := f14.iown 1 rfl rfl
  clear f14
  show Code.wp _ _ _ a14 w14
  refine wp_cond_false e75 ?_
  refine wp_skip ?_
  show Code.wp _ _ _ a14 w14
  refine wp_seq ?_
  refine wp_seq ?_
  refine region_St (bf := [0]) (sp := [
      (det (Nw w) 13 (.int .i64 (0)))])
    [(iown SpanE 33 (Nw w) b13x11 ((ordF (someF xs)).map (shift (k : Int)))), (iown SpanE 33 (Nw w) b12x9 (ordF (someF xs)))] mixed st14 (by kernel_rfl) ⟨r0, r1, trivial⟩
    ⟨Ob.det rfl rfl rfl (fun _ a_ _ _ c => r_assign rfl rfl),
     trivial⟩ ?_
  intro a15 w15 τ15 st15 f15
  replace e4 := f15.old e4 (by kernel_rfl)
  replace e5 := f15.old e5 (by kernel_rfl)
  replace e9 := f15.old e9 (by kernel_rfl)
  replace e11 := f15.old e11 (by kernel_rfl)
  have e13 : get a15 13 = (.int .i64 (0)) := f15.v 0 rfl
  replace r0 : ownR SpanE 33 ((ordF (someF xs)).map (shift (k : Int))) (τ15 0) b13x11 w15 := f15.iown 0 rfl rfl
  replace r1 : ownR SpanE 33 (ordF (someF xs)) (τ15 1) b12x9 w15 := f15.iown 1 rfl rfl
  clear f15
  show Code.wp _ _ _ a15 w15
  refine wp_block ?_
  refine wp_loop (fun a_ w_ => ∃ (j : Nat) (τ : Nat → Foot), (j ≤ (ordF (someF xs)).length) ∧
        St (Nw w) w 111 a_ w_ τ ∧
        get a_ 13 = (.int .i64 ((j : Int))) ∧
        get a_ 5 = (.int .i64 ((k : Int))) ∧
        get a_ 9 = b12x9 ∧
        get a_ 11 = b13x11 ∧
        ownR SpanE 33 ((ordF (someF xs)).map (shift (k : Int))) (τ 0) b13x11 w_ ∧
        ownR SpanE 33 (ordF (someF xs)) (τ 1) b12x9 w_) (fun a_ _ => (ordF (someF xs)).length - (intOf (get a_ 13)).toNat) ?_ ?_
  · refine ⟨0, τ15, ?_, st15, (e13.trans (int_eq (by omega))), e5, e9, e11, r0, r1⟩
    · omega
  intro a16 w16 hI
  obtain ⟨j, τ16, q0, st16, e13, e5, e9, e11, r0, r1⟩ := hI
  have hbo := ord_at (xs := xs) (i := j)
  have m13 := e13
  refine wp_seq ?_
  refine wp_seq ?_
  refine region_St (bf := [0, 0, 2, 7]) (sp := [
      (det (Nw w) 76 (.int .i64 ((j : Int)))),
        (det (Nw w) 77 b12x9),
        (det (Nw w) 78 (.int .i64 (((ordF (someF xs)).length : Int)))),
        (det (Nw w) 79 (.bool (decide ((j : Int) < ((ordF (someF xs)).length : Int)))))])
    [(iown SpanE 33 (Nw w) b13x11 ((ordF (someF xs)).map (shift (k : Int)))), (iown SpanE 33 (Nw w) b12x9 (ordF (someF xs)))] mixed st16 (by kernel_rfl) ⟨r0, r1, trivial⟩
    ⟨Ob.det rfl rfl rfl (fun _ a_ _ _ c => r_move rfl (c.eo e13 (by kernel_rfl))),
       Ob.det rfl rfl rfl (fun _ a_ _ _ c => r_move rfl (c.eo e9 (by kernel_rfl))),
       Ob.det rfl rfl rfl (fun _ a_ _ _ c => r_len rfl Try.underlying22 (c.ev 1 rfl rfl) r1.isSl),
       Ob.det rfl rfl rfl (fun _ a_ _ _ c => r_lss rfl (c.ev 0 rfl rfl) (c.ev 2 rfl rfl)),
     trivial⟩ ?_
  intro a17 w17 τ17 st17 f17
  replace e5 := f17.old e5 (by kernel_rfl)
  replace e9 := f17.old e9 (by kernel_rfl)
  replace e11 := f17.old e11 (by kernel_rfl)
  replace e13 := f17.old e13 (by kernel_rfl)
  have e79 : get a17 79 = (.bool (decide ((j : Int) < ((ordF (someF xs)).length : Int)))) := f17.v 3 rfl
  replace r0 : ownR SpanE 33 ((ordF (someF xs)).map (shift (k : Int))) (τ17 0) b13x11 w17 := f17.iown 0 rfl rfl
  replace r1 : ownR SpanE 33 (ordF (someF xs)) (τ17 1) b12x9 w17 := f17.iown 1 rfl rfl
  clear f17
  show Code.wp _ _ _ a17 w17
  refine wp_cond_split (t := decide ((j : Int) < ((ordF (someF xs)).length : Int))) e79 (fun hc4 => ?_) (fun hc4 => ?_)
  · try simp only [Bool.and_eq_true, Bool.or_eq_true, decide_eq_true_eq, decide_eq_false_iff_not, Bool.not_eq_true', Bool.and_eq_false_iff, Bool.or_eq_false_iff, Bool.not_eq_false', Int.not_lt, Int.not_le, beq_iff_eq, selB] at hc4
    refine wp_skip ?_
    show Code.wp _ _ _ a17 w17
    refine wp_seq ?_
    refine wp_block ?_
    refine wp_seq ?_
    refine region_St (bf := [0, 0, 3, 7, 15, 0, 0, 96, 224, 480, 0, 2016, 4095, 8191, 16383, 16383, 65535, 131071, 262143, 16383, 16383, 1589247, 3686399, 7880703, 16383, 33046527, 67108863, 134217727]) (sp := [
        (det (Nw w) 82 b13x11),
            (det (Nw w) 83 (.int .i64 ((j : Int)))),
            (det (Nw w) 84 (.pointer (some ((ptrOf b13x11).add (((j : Int) : Int).toNat * 2))))),
            (det (Nw w) 85 (.pointer (some (((ptrOf b13x11).add (((j : Int) : Int).toNat * 2)).add 0)))),
            (det (Nw w) 86 (.int .i64 ((nth ((ordF (someF xs)).map (shift (k : Int))) ((j : Int))).1))),
            (det (Nw w) 87 b12x9),
            (det (Nw w) 88 (.int .i64 ((j : Int)))),
            (det (Nw w) 89 (.pointer (some ((ptrOf b12x9).add (((j : Int) : Int).toNat * 2))))),
            (det (Nw w) 90 (.pointer (some (((ptrOf b12x9).add (((j : Int) : Int).toNat * 2)).add 0)))),
            (det (Nw w) 91 (.int .i64 ((nth (ordF (someF xs)) ((j : Int))).1))),
            (det (Nw w) 92 (.int .i64 ((k : Int)))),
            (det (Nw w) 93 (.int .i64 ((nth (ordF (someF xs)) ((j : Int))).1 + (k : Int)))),
            (det (Nw w) 94 (.bool (!decide ((nth ((ordF (someF xs)).map (shift (k : Int))) ((j : Int))).1 = (nth (ordF (someF xs)) ((j : Int))).1 + (k : Int))))),
            (det (Nw w) 95 (.bool (!decide ((nth ((ordF (someF xs)).map (shift (k : Int))) ((j : Int))).1 = (nth (ordF (someF xs)) ((j : Int))).1 + (k : Int))))),
            (gdet (Nw w) 96 ((!decide ((nth ((ordF (someF xs)).map (shift (k : Int))) ((j : Int))).1 = (nth (ordF (someF xs)) ((j : Int))).1 + (k : Int))) = false) b13x11),
            (gdet (Nw w) 97 ((!decide ((nth ((ordF (someF xs)).map (shift (k : Int))) ((j : Int))).1 = (nth (ordF (someF xs)) ((j : Int))).1 + (k : Int))) = false) (.int .i64 ((j : Int)))),
            (gdet (Nw w) 98 ((!decide ((nth ((ordF (someF xs)).map (shift (k : Int))) ((j : Int))).1 = (nth (ordF (someF xs)) ((j : Int))).1 + (k : Int))) = false) (.pointer (some ((ptrOf b13x11).add (((j : Int) : Int).toNat * 2))))),
            (gdet (Nw w) 99 ((!decide ((nth ((ordF (someF xs)).map (shift (k : Int))) ((j : Int))).1 = (nth (ordF (someF xs)) ((j : Int))).1 + (k : Int))) = false) (.pointer (some (((ptrOf b13x11).add (((j : Int) : Int).toNat * 2)).add 1)))),
            (gdet (Nw w) 100 ((!decide ((nth ((ordF (someF xs)).map (shift (k : Int))) ((j : Int))).1 = (nth (ordF (someF xs)) ((j : Int))).1 + (k : Int))) = false) (.int .i64 ((nth ((ordF (someF xs)).map (shift (k : Int))) ((j : Int))).2))),
            (gdet (Nw w) 101 ((!decide ((nth ((ordF (someF xs)).map (shift (k : Int))) ((j : Int))).1 = (nth (ordF (someF xs)) ((j : Int))).1 + (k : Int))) = false) b12x9),
            (gdet (Nw w) 102 ((!decide ((nth ((ordF (someF xs)).map (shift (k : Int))) ((j : Int))).1 = (nth (ordF (someF xs)) ((j : Int))).1 + (k : Int))) = false) (.int .i64 ((j : Int)))),
            (gdet (Nw w) 103 ((!decide ((nth ((ordF (someF xs)).map (shift (k : Int))) ((j : Int))).1 = (nth (ordF (someF xs)) ((j : Int))).1 + (k : Int))) = false) (.pointer (some ((ptrOf b12x9).add (((j : Int) : Int).toNat * 2))))),
            (gdet (Nw w) 104 ((!decide ((nth ((ordF (someF xs)).map (shift (k : Int))) ((j : Int))).1 = (nth (ordF (someF xs)) ((j : Int))).1 + (k : Int))) = false) (.pointer (some (((ptrOf b12x9).add (((j : Int) : Int).toNat * 2)).add 1)))),
            (gdet (Nw w) 105 ((!decide ((nth ((ordF (someF xs)).map (shift (k : Int))) ((j : Int))).1 = (nth (ordF (someF xs)) ((j : Int))).1 + (k : Int))) = false) (.int .i64 ((nth (ordF (someF xs)) ((j : Int))).2))),
            (gdet (Nw w) 106 ((!decide ((nth ((ordF (someF xs)).map (shift (k : Int))) ((j : Int))).1 = (nth (ordF (someF xs)) ((j : Int))).1 + (k : Int))) = false) (.int .i64 ((k : Int)))),
            (gdet (Nw w) 107 ((!decide ((nth ((ordF (someF xs)).map (shift (k : Int))) ((j : Int))).1 = (nth (ordF (someF xs)) ((j : Int))).1 + (k : Int))) = false) (.int .i64 ((nth (ordF (someF xs)) ((j : Int))).2 + (k : Int)))),
            (gdet (Nw w) 108 ((!decide ((nth ((ordF (someF xs)).map (shift (k : Int))) ((j : Int))).1 = (nth (ordF (someF xs)) ((j : Int))).1 + (k : Int))) = false) (.bool (!decide ((nth ((ordF (someF xs)).map (shift (k : Int))) ((j : Int))).2 = (nth (ordF (someF xs)) ((j : Int))).2 + (k : Int))))),
            (det (Nw w) 109 (.bool (false)))])
      [(iown SpanE 33 (Nw w) b13x11 ((ordF (someF xs)).map (shift (k : Int)))), (iown SpanE 33 (Nw w) b12x9 (ordF (someF xs)))] mixed st17 (by kernel_rfl) ⟨r0, r1, trivial⟩
      ⟨Ob.det rfl rfl rfl (fun _ a_ _ _ c => r_move rfl (c.eo e11 (by kernel_rfl))),
           Ob.det rfl rfl rfl (fun _ a_ _ _ c => r_move rfl (c.eo e13 (by kernel_rfl))),
           Ob.det rfl rfl rfl (fun _ a_ _ _ c => r_indexAddr rfl Try.underlying22 Try.sizeOf33 (c.ev 0 rfl rfl) r0.isSl (c.ev 1 rfl rfl) (by first | omega | (simp only [List.length_map] at *; omega)) (by first | omega | (simp only [List.length_map] at *; omega))),
           Ob.det rfl rfl rfl (fun _ a_ _ _ c => r_fieldAddr rfl Try.underlying33 rfl rfl Try.sizeOf3 (c.ev 2 rfl rfl)),
           Ob.det rfl rfl rfl (fun _ a_ _ _ c => r_load1 rfl Try.isAgg3 (c.ev 3 rfl rfl) (((c.iown 0 rfl rfl (by kernel_rfl)).1.sl).elem (j := 0) (nth_some (by first | omega | (simp only [List.length_map] at *; omega)) (by first | omega | (simp only [List.length_map] at *; omega))) rfl)),
           Ob.det rfl rfl rfl (fun _ a_ _ _ c => r_move rfl (c.eo e9 (by kernel_rfl))),
           Ob.det rfl rfl rfl (fun _ a_ _ _ c => r_move rfl (c.eo e13 (by kernel_rfl))),
           Ob.det rfl rfl rfl (fun _ a_ _ _ c => r_indexAddr rfl Try.underlying22 Try.sizeOf33 (c.ev 5 rfl rfl) r1.isSl (c.ev 6 rfl rfl) (by first | omega | (simp only [List.length_map] at *; omega)) (by first | omega | (simp only [List.length_map] at *; omega))),
           Ob.det rfl rfl rfl (fun _ a_ _ _ c => r_fieldAddr rfl Try.underlying33 rfl rfl Try.sizeOf3 (c.ev 7 rfl rfl)),
           Ob.det rfl rfl rfl (fun _ a_ _ _ c => r_load1 rfl Try.isAgg3 (c.ev 8 rfl rfl) (((c.iown 1 rfl rfl (by kernel_rfl)).1.sl).elem (j := 0) (nth_some (by first | omega | (simp only [List.length_map] at *; omega)) (by first | omega | (simp only [List.length_map] at *; omega))) rfl)),
           Ob.det rfl rfl rfl (fun _ a_ _ _ c => r_move rfl (c.eo e5 (by kernel_rfl))),
           Ob.det rfl rfl rfl (fun _ a_ _ _ c => r_add rfl (c.ev 9 rfl rfl) (c.ev 10 rfl rfl) (by first | omega | (simp only [List.length_map] at *; omega))),
           Ob.det rfl rfl rfl (fun _ a_ _ _ c => r_neq rfl (c.ev 4 rfl rfl) (c.ev 11 rfl rfl)),
           Ob.det rfl rfl rfl (fun _ a_ _ _ c => r_move rfl (c.ev 12 rfl rfl)),
           Ob.gdet rfl rfl rfl rfl (gi := 13) (tg := 95) rfl rfl Iff.rfl (fun _ a_ _ _ c hpc => r_move rfl (c.eo e11 (by kernel_rfl))),
           Ob.gdet rfl rfl rfl rfl (gi := 13) (tg := 95) rfl rfl Iff.rfl (fun _ a_ _ _ c hpc => r_move rfl (c.eo e13 (by kernel_rfl))),
           Ob.gdet rfl rfl rfl rfl (gi := 13) (tg := 95) rfl rfl Iff.rfl (fun _ a_ _ _ c hpc => r_indexAddr rfl Try.underlying22 Try.sizeOf33 (c.eg 14 rfl rfl hpc) r0.isSl (c.eg 15 rfl rfl hpc) (by have hq0 := hpc; (try simp only [Bool.and_eq_true, Bool.or_eq_true, decide_eq_true_eq, decide_eq_false_iff_not, Bool.not_eq_true', Bool.and_eq_false_iff, Bool.or_eq_false_iff, Bool.not_eq_false', Int.not_lt, Int.not_le, beq_iff_eq, selB] at hq0); first | omega | (simp only [List.length_map] at *; omega)) (by have hq0 := hpc; (try simp only [Bool.and_eq_true, Bool.or_eq_true, decide_eq_true_eq, decide_eq_false_iff_not, Bool.not_eq_true', Bool.and_eq_false_iff, Bool.or_eq_false_iff, Bool.not_eq_false', Int.not_lt, Int.not_le, beq_iff_eq, selB] at hq0); first | omega | (simp only [List.length_map] at *; omega))),
           Ob.gdet rfl rfl rfl rfl (gi := 13) (tg := 95) rfl rfl Iff.rfl (fun _ a_ _ _ c hpc => r_fieldAddr rfl Try.underlying33 rfl rfl Try.sizeOf3 (c.eg 16 rfl rfl hpc)),
           Ob.gdet rfl rfl rfl rfl (gi := 13) (tg := 95) rfl rfl Iff.rfl (fun _ a_ _ _ c hpc => r_load1 rfl Try.isAgg3 (c.eg 17 rfl rfl hpc) (((c.iown 0 rfl rfl (by kernel_rfl)).1.sl).elem (j := 1) (nth_some (by have hq0 := hpc; (try simp only [Bool.and_eq_true, Bool.or_eq_true, decide_eq_true_eq, decide_eq_false_iff_not, Bool.not_eq_true', Bool.and_eq_false_iff, Bool.or_eq_false_iff, Bool.not_eq_false', Int.not_lt, Int.not_le, beq_iff_eq, selB] at hq0); first | omega | (simp only [List.length_map] at *; omega)) (by have hq0 := hpc; (try simp only [Bool.and_eq_true, Bool.or_eq_true, decide_eq_true_eq, decide_eq_false_iff_not, Bool.not_eq_true', Bool.and_eq_false_iff, Bool.or_eq_false_iff, Bool.not_eq_false', Int.not_lt, Int.not_le, beq_iff_eq, selB] at hq0); first | omega | (simp only [List.length_map] at *; omega))) rfl)),
           Ob.gdet rfl rfl rfl rfl (gi := 13) (tg := 95) rfl rfl Iff.rfl (fun _ a_ _ _ c hpc => r_move rfl (c.eo e9 (by kernel_rfl))),
           Ob.gdet rfl rfl rfl rfl (gi := 13) (tg := 95) rfl rfl Iff.rfl (fun _ a_ _ _ c hpc => r_move rfl (c.eo e13 (by kernel_rfl))),
           Ob.gdet rfl rfl rfl rfl (gi := 13) (tg := 95) rfl rfl Iff.rfl (fun _ a_ _ _ c hpc => r_indexAddr rfl Try.underlying22 Try.sizeOf33 (c.eg 19 rfl rfl hpc) r1.isSl (c.eg 20 rfl rfl hpc) (by have hq0 := hpc; (try simp only [Bool.and_eq_true, Bool.or_eq_true, decide_eq_true_eq, decide_eq_false_iff_not, Bool.not_eq_true', Bool.and_eq_false_iff, Bool.or_eq_false_iff, Bool.not_eq_false', Int.not_lt, Int.not_le, beq_iff_eq, selB] at hq0); first | omega | (simp only [List.length_map] at *; omega)) (by have hq0 := hpc; (try simp only [Bool.and_eq_true, Bool.or_eq_true, decide_eq_true_eq, decide_eq_false_iff_not, Bool.not_eq_true', Bool.and_eq_false_iff, Bool.or_eq_false_iff, Bool.not_eq_false', Int.not_lt, Int.not_le, beq_iff_eq, selB] at hq0); first | omega | (simp only [List.length_map] at *; omega))),
           Ob.gdet rfl rfl rfl rfl (gi := 13) (tg := 95) rfl rfl Iff.rfl (fun _ a_ _ _ c hpc => r_fieldAddr rfl Try.underlying33 rfl rfl Try.sizeOf3 (c.eg 21 rfl rfl hpc)),
           Ob.gdet rfl rfl rfl rfl (gi := 13) (tg := 95) rfl rfl Iff.rfl (fun _ a_ _ _ c hpc => r_load1 rfl Try.isAgg3 (c.eg 22 rfl rfl hpc) (((c.iown 1 rfl rfl (by kernel_rfl)).1.sl).elem (j := 1) (nth_some (by have hq0 := hpc; (try simp only [Bool.and_eq_true, Bool.or_eq_true, decide_eq_true_eq, decide_eq_false_iff_not, Bool.not_eq_true', Bool.and_eq_false_iff, Bool.or_eq_false_iff, Bool.not_eq_false', Int.not_lt, Int.not_le, beq_iff_eq, selB] at hq0); first | omega | (simp only [List.length_map] at *; omega)) (by have hq0 := hpc; (try simp only [Bool.and_eq_true, Bool.or_eq_true, decide_eq_true_eq, decide_eq_false_iff_not, Bool.not_eq_true', Bool.and_eq_false_iff, Bool.or_eq_false_iff, Bool.not_eq_false', Int.not_lt, Int.not_le, beq_iff_eq, selB] at hq0); first | omega | (simp only [List.length_map] at *; omega))) rfl)),
           Ob.gdet rfl rfl rfl rfl (gi := 13) (tg := 95) rfl rfl Iff.rfl (fun _ a_ _ _ c hpc => r_move rfl (c.eo e5 (by kernel_rfl))),
           Ob.gdet rfl rfl rfl rfl (gi := 13) (tg := 95) rfl rfl Iff.rfl (fun _ a_ _ _ c hpc => r_add rfl (c.eg 23 rfl rfl hpc) (c.eg 24 rfl rfl hpc) (by have hq0 := hpc; (try simp only [Bool.and_eq_true, Bool.or_eq_true, decide_eq_true_eq, decide_eq_false_iff_not, Bool.not_eq_true', Bool.and_eq_false_iff, Bool.or_eq_false_iff, Bool.not_eq_false', Int.not_lt, Int.not_le, beq_iff_eq, selB] at hq0); first | omega | (simp only [List.length_map] at *; omega))),
           Ob.gdet rfl rfl rfl rfl (gi := 13) (tg := 95) rfl rfl Iff.rfl (fun _ a_ _ _ c hpc => r_neq rfl (c.eg 18 rfl rfl hpc) (c.eg 25 rfl rfl hpc)),
           Ob.det rfl rfl rfl (fun _ a_ _ _ c => Runs.isB (b := (!decide ((nth ((ordF (someF xs)).map (shift (k : Int))) ((j : Int))).1 = (nth (ordF (someF xs)) ((j : Int))).1 + (k : Int))) || (!decide ((nth ((ordF (someF xs)).map (shift (k : Int))) ((j : Int))).2 = (nth (ordF (someF xs)) ((j : Int))).2 + (k : Int)))) (r_or rfl (c.ev 13 rfl rfl) (fun h => (c.eg 26 rfl rfl h))) (by rw [nth_map (by omega)]; simp [shift])),
       trivial⟩ ?_
    intro a18 w18 τ18 st18 f18
    replace e5 := f18.old e5 (by kernel_rfl)
    replace e9 := f18.old e9 (by kernel_rfl)
    replace e11 := f18.old e11 (by kernel_rfl)
    replace e13 := f18.old e13 (by kernel_rfl)
    replace e79 := f18.old e79 (by kernel_rfl)
    have e109 : get a18 109 = (.bool (false)) := f18.v 27 rfl
    replace r0 : ownR SpanE 33 ((ordF (someF xs)).map (shift (k : Int))) (τ18 0) b13x11 w18 := f18.iown 0 rfl rfl
    replace r1 : ownR SpanE 33 (ordF (someF xs)) (τ18 1) b12x9 w18 := f18.iown 1 rfl rfl
    clear f18
    show Code.wp _ _ _ a18 w18
    refine wp_cond_false e109 ?_
    refine wp_skip ?_
    show _
    show Code.wp _ _ _ a18 w18
    refine region_St (bf := [0, 1, 3]) (sp := [
        (det (Nw w) 80 (.int .i64 ((j : Int)))),
            (det (Nw w) 81 (.int .i64 ((j : Int) + 1))),
            (det (Nw w) 13 (.int .i64 ((j : Int) + 1)))])
      [(iown SpanE 33 (Nw w) b13x11 ((ordF (someF xs)).map (shift (k : Int)))), (iown SpanE 33 (Nw w) b12x9 (ordF (someF xs)))] mixed st18 (by kernel_rfl) ⟨r0, r1, trivial⟩
      ⟨Ob.det rfl rfl rfl (fun _ a_ _ _ c => r_move rfl (c.eo e13 (by kernel_rfl))),
           Ob.det rfl rfl rfl (fun _ a_ _ _ c => r_add rfl (c.ev 0 rfl rfl) rfl (by first | omega | (simp only [List.length_map] at *; omega))),
           Ob.det rfl rfl rfl (fun _ a_ _ _ c => r_assign rfl (c.ev 1 rfl rfl)),
       trivial⟩ ?_
    intro a19 w19 τ19 st19 f19
    replace e5 := f19.old e5 (by kernel_rfl)
    replace e9 := f19.old e9 (by kernel_rfl)
    replace e11 := f19.old e11 (by kernel_rfl)
    have e13 : get a19 13 = (.int .i64 ((j : Int) + 1)) := f19.v 2 rfl
    replace e79 := f19.old e79 (by kernel_rfl)
    replace e109 := f19.old e109 (by kernel_rfl)
    replace r0 : ownR SpanE 33 ((ordF (someF xs)).map (shift (k : Int))) (τ19 0) b13x11 w19 := f19.iown 0 rfl rfl
    replace r1 : ownR SpanE 33 (ordF (someF xs)) (τ19 1) b12x9 w19 := f19.iown 1 rfl rfl
    clear f19
    refine ⟨⟨j + 1, τ19, ?_, st19, (e13.trans (int_eq (by omega))), e5, e9, e11, r0, r1⟩, ?_⟩
    · omega
    · simp only [m13, e13, intOf]; omega
  try simp only [Bool.and_eq_true, Bool.or_eq_true, decide_eq_true_eq, decide_eq_false_iff_not, Bool.not_eq_true', Bool.and_eq_false_iff, Bool.or_eq_false_iff, Bool.not_eq_false', Int.not_lt, Int.not_le, beq_iff_eq, selB] at hc4
  refine wp_exit ?_
  repeat (with_reducible refine then_exit ?_)
  refine exit_here ?_
  show Code.wp _ _ _ a17 w17
  refine wp_seq ?_
  refine region_St (bf := [0, 1]) (sp := [
      (det (Nw w) 110 (.bool (true))),
        (det (Nw w) 4 (.bool (true)))])
    [(iown SpanE 33 (Nw w) b13x11 ((ordF (someF xs)).map (shift (k : Int)))), (iown SpanE 33 (Nw w) b12x9 (ordF (someF xs)))] mixed st17 (by kernel_rfl) ⟨r0, r1, trivial⟩
    ⟨Ob.call rfl rfl rfl (fun _ a_ _ _ c => ⟨_, _, (e_call0 rfl rfl Try.call9), awake_c _⟩),
       Ob.det rfl rfl rfl (fun _ a_ _ _ c => r_assign rfl (c.ev 0 rfl rfl)),
     trivial⟩ ?_
  intro a20 w20 τ20 st20 f20
  have e4 : get a20 4 = (.bool (true)) := f20.v 1 rfl
  clear f20
  show Code.wp _ _ _ a20 w20
  refine wp_ret ?_
  repeat (first | with_reducible refine then_ret ?_ | with_reducible refine block_ret ?_)
  refine ret1 (fn := Try.f7) rfl st20.defers e4 ?_
  exact ⟨rfl, st20.ext0⟩
end B
end Go.Proofs.Ytjapbdofhbfmfaa
