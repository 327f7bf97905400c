/-
  Walks, printed by a program (gen.py): SelF.
-/
import Derived.Test.YtjapbdofhbfmfaaSelE
import Derived.Test.YtjapbdofhbfmfaaRef
set_option linter.unusedSimpArgs false
set_option linter.unusedVariables false
namespace Go.Proofs.Ytjapbdofhbfmfaa
namespace B
open Go.RowKit
open Srt
def ofF (p : Int × Int) (b : Bool) : Int × Int := bif b then (p.2, p.1) else (p.1, p.2)
def lessSel (x y : Int × Int) : Bool := lessB (sspan x) (sspan y)
theorem lessSel_eq : lessSel = ltSel := by
  funext x y
  rw [Bool.eq_iff_iff, ltSel_iff]
  simp [lessSel, lessB]
def contR (acc : List (Int × Int)) (s : Int × Int) : Bool := decide ((0 : Int) < (acc.length : Int)) && touchB (sspan (nth acc ((acc.length : Int) - 1))) (sspan s)
def stepR (acc : List (Int × Int)) (s : Int × Int) : List (Int × Int) :=
  if contR acc s = true then acc.set ((acc.length : Int) - 1).toNat (ofF ((sspan (nth acc ((acc.length : Int) - 1))).1, max (sspan (nth acc ((acc.length : Int) - 1))).2 (sspan s).2) (decide ((nth acc ((acc.length : Int) - 1)).2 < (nth acc ((acc.length : Int) - 1)).1))) else acc ++ [s]
def foldR (xs : List (Int × Int)) : List (Int × Int) := xs.foldl stepR []
def mergeF (xs : List (Int × Int)) : List (Int × Int) := foldR (isort lessSel xs)
theorem stepR_eq (acc : List (Int × Int)) (s : Int × Int) : stepR acc s = stepO acc s := by
  have h : contO acc s = !contR acc s := by
    unfold contO contR
    have : decide ((acc.length : Int) - 1 < 0) = !decide ((0 : Int) < (acc.length : Int)) := by
      by_cases h0 : (0 : Int) < (acc.length : Int)
      · rw [decide_eq_true h0, decide_eq_false (by omega)]; rfl
      · rw [decide_eq_false h0, decide_eq_true (by omega)]; rfl
    rw [this]
    cases decide ((0 : Int) < (acc.length : Int)) <;> rfl
  unfold stepR stepO
  rw [h]
  cases contR acc s with
  | false => rfl
  | true =>
    simp only [Bool.not_true, if_true]
    rw [if_neg (by decide)]
    unfold joinO ofF
    cases decide ((nth acc ((acc.length : Int) - 1)).2 < (nth acc ((acc.length : Int) - 1)).1) <;> rfl
theorem foldR_eq (xs : List (Int × Int)) : foldR xs = foldO xs := by
  unfold foldR foldO
  congr 1
  funext a s
  exact stepR_eq a s
theorem mergeF_eq (xs : List (Int × Int)) : mergeF xs = ordF xs := by
  unfold mergeF ordF
  rw [foldR_eq, lessSel_eq]
theorem foldR_snoc (xs : List (Int × Int)) (p : Int × Int) : foldR (xs ++ [p]) = stepR (foldR xs) p := by simp [foldR]
theorem foldR_hit {xs : List (Int × Int)} {k : Nat} (h : k < xs.length) (hc : contR (foldR (xs.take k)) (nth xs (k : Int)) = true) :
    foldR (xs.take (k + 1)) = (foldR (xs.take k)).set (((foldR (xs.take k)).length : Int) - 1).toNat (ofF ((sspan (nth (foldR (xs.take k)) (((foldR (xs.take k)).length : Int) - 1))).1, max (sspan (nth (foldR (xs.take k)) (((foldR (xs.take k)).length : Int) - 1))).2 (sspan (nth xs (k : Int))).2) (decide ((nth (foldR (xs.take k)) (((foldR (xs.take k)).length : Int) - 1)).2 < (nth (foldR (xs.take k)) (((foldR (xs.take k)).length : Int) - 1)).1))) := by
  rw [take_snoc h, foldR_snoc, stepR, if_pos hc]
theorem foldR_miss {xs : List (Int × Int)} {k : Nat} (h : k < xs.length) (hc : contR (foldR (xs.take k)) (nth xs (k : Int)) = false) : foldR (xs.take (k + 1)) = foldR (xs.take k) ++ [nth xs (k : Int)] := by
  rw [take_snoc h, foldR_snoc, stepR, if_neg (by rw [hc]; decide)]
theorem foldR_take {xs : List (Int × Int)} {k : Nat} : (foldR (xs.take k)).length ≤ k := by
  rw [foldR_eq]; exact foldO_take
def someF (xs : List (Int × Int)) : List (Int × Int) := xs.map fun p => (lowF p.1 61, lowF p.2 61)
theorem someF_len (xs : List (Int × Int)) : (someF xs).length = xs.length := List.length_map _
theorem map_succ {α β : Type} [Inhabited α] {f : α → β} {xs : List α} {k : Nat} (h : k < xs.length) : (xs.take (k + 1)).map f = (xs.take k).map f ++ [f (nth xs (k : Int))] := by
  rw [take_snoc h, List.map_append]; rfl
def mvS (es : List (Int × Int × ByteArray)) (s : Int × Int) : Int × Int := (moveW s.1 true es, moveW s.2 true es)
def moveS (es : List (Int × Int × ByteArray)) (xs : List (Int × Int)) : List (Int × Int) := ordF (xs.map (mvS es))
set_option maxRecDepth 100000 in
theorem of_c (p : Int × Int) (b : Bool) (w : World) : Calls Try.prog 32 #[spanV p, .bool b] w (fun e w' => e = .returned (spanV (ofF p b)) ∧ Ext none' w w') := by
  refine enter (n := 16) Try.func32 rfl rfl (Nat.le_of_ble_eq_true rfl) ?_
  intro a0 τ0 ha st0
  have e0 : get a0 0 = (.agg #[(.int .i64 (p.1)), (.int .i64 (p.2))]) := ha 0 _ rfl
  have e1 : get a0 1 = (.bool (b)) := ha 1 _ rfl
  clear ha
  refine wp_seq ?_
  refine region_St (bf := [0, 0]) (sp := [
      (box 39 (Nw w) 0 2 [(.int .i64 (p.1)), (.int .i64 (p.2))]),
        (box 33 (Nw w) 1 4 [(.int .i64 (0)), (.int .i64 (0))])])
    [] mixed st0 (by kernel_rfl) trivial
    ⟨Ob.box (v := (.agg #[(.int .i64 (p.1)), (.int .i64 (p.2))])) rfl rfl rfl rfl rfl (fun _ _ _ _ c => (c.eo e0 (by kernel_rfl))),
       Ob.alloc rfl rfl rfl rfl Try.zeroValue33 rfl,
     trivial⟩ ?_
  intro a1 w1 τ1 st1 f1
  obtain ⟨b1x2, e2⟩ : ∃ b, get a1 2 = b := ⟨_, rfl⟩
  obtain ⟨b1x4, e4⟩ : ∃ b, get a1 4 = b := ⟨_, rfl⟩
  replace e1 := f1.old e1 (by kernel_rfl)
  have r0 : boxR 39 [(.int .i64 (p.1)), (.int .i64 (p.2))] (τ1 0) b1x2 w1 := f1.rbox 0 rfl rfl e2
  have r1 : boxR 33 [(.int .i64 (0)), (.int .i64 (0))] (τ1 1) b1x4 w1 := f1.rbox 1 rfl rfl e4
  clear f1
  show Code.wp _ _ _ a1 w1
  refine wp_seq ?_
  refine wp_seq ?_
  refine region_St (bf := [0]) (sp := [
      (det (Nw w) 5 (.bool (b)))])
    [(ibox 39 (Nw w) b1x2 [(.int .i64 (p.1)), (.int .i64 (p.2))]), (ibox 33 (Nw w) b1x4 [(.int .i64 (0)), (.int .i64 (0))])] mixed st1 (by kernel_rfl) ⟨r0, r1, trivial⟩
    ⟨Ob.det rfl rfl rfl (fun _ a_ _ _ c => r_move rfl (c.eo e1 (by kernel_rfl))),
     trivial⟩ ?_
  intro a2 w2 τ2 st2 f2
  replace e2 := f2.old e2 (by kernel_rfl)
  replace e4 := f2.old e4 (by kernel_rfl)
  have e5 : get a2 5 = (.bool (b)) := f2.v 0 rfl
  replace r0 : boxR 39 [(.int .i64 (p.1)), (.int .i64 (p.2))] (τ2 0) b1x2 w2 := f2.ibox 0 rfl rfl
  replace r1 : boxR 33 [(.int .i64 (0)), (.int .i64 (0))] (τ2 1) b1x4 w2 := f2.ibox 1 rfl rfl
  clear f2
  show Code.wp _ _ _ a2 w2
  refine wp_cond_split (t := b) e5 (fun hc1 => ?_) (fun hc1 => ?_)
  · try simp only [Bool.and_eq_true, Bool.or_eq_true, decide_eq_true_eq, decide_eq_false_iff_not, Bool.not_eq_true', Bool.and_eq_false_iff, Bool.or_eq_false_iff, Bool.not_eq_false', Int.not_lt, Int.not_le, beq_iff_eq, selB] at hc1
    refine wp_seq ?_
    refine region_St (bf := [0, 1, 0, 4, 15, 31]) (sp := [
        (det (Nw w) 6 (.pointer (some ((ptrOf b1x2).add 1)))),
            (det (Nw w) 7 (.int .i64 (p.2))),
            (det (Nw w) 8 (.pointer (some ((ptrOf b1x2).add 0)))),
            (det (Nw w) 9 (.int .i64 (p.1))),
            (det (Nw w) 10 (.agg #[(.int .i64 (p.2)), (.int .i64 (p.1))])),
            (box 33 (Nw w) 1 4 [(.int .i64 (p.2)), (.int .i64 (p.1))])])
      [(ibox 39 (Nw w) b1x2 [(.int .i64 (p.1)), (.int .i64 (p.2))]), (ibox 33 (Nw w) b1x4 [(.int .i64 (0)), (.int .i64 (0))])] mixed st2 (by kernel_rfl) ⟨r0, r1, trivial⟩
      ⟨Ob.det rfl rfl rfl (fun _ a_ _ _ c => r_fieldAddr rfl Try.underlying39 rfl rfl Try.sizeOf3 ((c.eo e2 (by kernel_rfl)).trans r0.ptr)),
           Ob.det rfl rfl rfl (fun _ a_ _ _ c => r_load1 rfl Try.isAgg3 (c.ev 0 rfl rfl) ((c.ibox 0 rfl rfl (by kernel_rfl)).cell (j := 1) rfl)),
           Ob.det rfl rfl rfl (fun _ a_ _ _ c => r_fieldAddr rfl Try.underlying39 rfl rfl Try.sizeOf3 ((c.eo e2 (by kernel_rfl)).trans r0.ptr)),
           Ob.det rfl rfl rfl (fun _ a_ _ _ c => r_load1 rfl Try.isAgg3 (c.ev 2 rfl rfl) ((c.ibox 0 rfl rfl (by kernel_rfl)).cell (j := 0) rfl)),
           Ob.det rfl rfl rfl (fun _ a_ _ _ c => r_build (cells := #[(.int .i64 (p.2)), (.int .i64 (p.1))]) rfl Try.underlying33 Try.zeroValue33 (pl := #[(0, 1), (1, 1)]) (fun w_ => by simp [Try.sizeOf3]) (by simp only [List.map_toArray, List.map_cons, List.map_nil, (show a_.eval (.tmp 7) = (.int .i64 (p.2)) from (c.ev 1 rfl rfl)), (show a_.eval (.tmp 9) = (.int .i64 (p.1)) from (c.ev 3 rfl rfl))]; rfl)),
           Ob.storeBox (off := 0) (v := (.agg #[(.int .i64 (p.2)), (.int .i64 (p.1))])) rfl rfl rfl rfl Try.sizeOf33 (Nat.le_of_ble_eq_true rfl) (by simp [Value.cells, Value.oneCell']) rfl (fun _ _ _ _ c => ⟨by rw [(show get _ 4 = b1x4 from c.old e4 (by kernel_rfl))]; exact c.ibox 1 rfl rfl (by kernel_rfl), by rw [(show get _ 4 = b1x4 from c.old e4 (by kernel_rfl))]; exact ((c.eo e4 (by kernel_rfl)).trans r1.ptr), (c.ev 4 rfl rfl)⟩),
       trivial⟩ ?_
    intro a3 w3 τ3 st3 f3
    replace e2 := f3.old e2 (by kernel_rfl)
    replace e4 := f3.old e4 (by kernel_rfl)
    replace r0 : boxR 39 [(.int .i64 (p.1)), (.int .i64 (p.2))] (τ3 0) b1x2 w3 := f3.ibox 0 rfl rfl
    have r1 : boxR 33 [(.int .i64 (p.2)), (.int .i64 (p.1))] (τ3 1) b1x4 w3 := f3.rbox 5 rfl rfl e4
    clear f3
    show Code.wp _ _ _ a3 w3
    refine wp_ret ?_
    repeat (first | with_reducible refine then_ret ?_ | with_reducible refine block_ret ?_)
    refine ret1c (fn := Try.f32) rfl st3.defers e4 r1 Try.isAgg33 Try.sizeOf33 rfl ?_
    obtain rfl := hc1
    exact ⟨rfl, st3.ext0⟩
  try simp only [Bool.and_eq_true, Bool.or_eq_true, decide_eq_true_eq, decide_eq_false_iff_not, Bool.not_eq_true', Bool.and_eq_false_iff, Bool.or_eq_false_iff, Bool.not_eq_false', Int.not_lt, Int.not_le, beq_iff_eq, selB] at hc1
  refine wp_skip ?_
  show Code.wp _ _ _ a2 w2
  refine wp_seq ?_
  refine region_St (bf := [0, 1, 0, 4, 15, 31]) (sp := [
      (det (Nw w) 11 (.pointer (some ((ptrOf b1x2).add 0)))),
        (det (Nw w) 12 (.int .i64 (p.1))),
        (det (Nw w) 13 (.pointer (some ((ptrOf b1x2).add 1)))),
        (det (Nw w) 14 (.int .i64 (p.2))),
        (det (Nw w) 15 (.agg #[(.int .i64 (p.1)), (.int .i64 (p.2))])),
        (box 33 (Nw w) 1 4 [(.int .i64 (p.1)), (.int .i64 (p.2))])])
    [(ibox 39 (Nw w) b1x2 [(.int .i64 (p.1)), (.int .i64 (p.2))]), (ibox 33 (Nw w) b1x4 [(.int .i64 (0)), (.int .i64 (0))])] mixed st2 (by kernel_rfl) ⟨r0, r1, trivial⟩
    ⟨Ob.det rfl rfl rfl (fun _ a_ _ _ c => r_fieldAddr rfl Try.underlying39 rfl rfl Try.sizeOf3 ((c.eo e2 (by kernel_rfl)).trans r0.ptr)),
       Ob.det rfl rfl rfl (fun _ a_ _ _ c => r_load1 rfl Try.isAgg3 (c.ev 0 rfl rfl) ((c.ibox 0 rfl rfl (by kernel_rfl)).cell (j := 0) rfl)),
       Ob.det rfl rfl rfl (fun _ a_ _ _ c => r_fieldAddr rfl Try.underlying39 rfl rfl Try.sizeOf3 ((c.eo e2 (by kernel_rfl)).trans r0.ptr)),
       Ob.det rfl rfl rfl (fun _ a_ _ _ c => r_load1 rfl Try.isAgg3 (c.ev 2 rfl rfl) ((c.ibox 0 rfl rfl (by kernel_rfl)).cell (j := 1) rfl)),
       Ob.det rfl rfl rfl (fun _ a_ _ _ c => r_build (cells := #[(.int .i64 (p.1)), (.int .i64 (p.2))]) rfl Try.underlying33 Try.zeroValue33 (pl := #[(0, 1), (1, 1)]) (fun w_ => by simp [Try.sizeOf3]) (by simp only [List.map_toArray, List.map_cons, List.map_nil, (show a_.eval (.tmp 12) = (.int .i64 (p.1)) from (c.ev 1 rfl rfl)), (show a_.eval (.tmp 14) = (.int .i64 (p.2)) from (c.ev 3 rfl rfl))]; rfl)),
       Ob.storeBox (off := 0) (v := (.agg #[(.int .i64 (p.1)), (.int .i64 (p.2))])) rfl rfl rfl rfl Try.sizeOf33 (Nat.le_of_ble_eq_true rfl) (by simp [Value.cells, Value.oneCell']) rfl (fun _ _ _ _ c => ⟨by rw [(show get _ 4 = b1x4 from c.old e4 (by kernel_rfl))]; exact c.ibox 1 rfl rfl (by kernel_rfl), by rw [(show get _ 4 = b1x4 from c.old e4 (by kernel_rfl))]; exact ((c.eo e4 (by kernel_rfl)).trans r1.ptr), (c.ev 4 rfl rfl)⟩),
     trivial⟩ ?_
  intro a4 w4 τ4 st4 f4
  replace e4 := f4.old e4 (by kernel_rfl)
  have r1 : boxR 33 [(.int .i64 (p.1)), (.int .i64 (p.2))] (τ4 1) b1x4 w4 := f4.rbox 5 rfl rfl e4
  clear f4
  show Code.wp _ _ _ a4 w4
  refine wp_ret ?_
  repeat (first | with_reducible refine then_ret ?_ | with_reducible refine block_ret ?_)
  refine ret1c (fn := Try.f32) rfl st4.defers e4 r1 Try.isAgg33 Try.sizeOf33 rfl ?_
  obtain rfl := hc1
  exact ⟨rfl, st4.ext0⟩

set_option maxRecDepth 100000 in
theorem merge_c (v : Value) (xs : List (Int × Int)) (w : World) (hS : SlT SpanE w v xs) (hbig : xs.length ≤ 1000000000000) : Calls Try.prog 22 #[v] w (fun e w' => ∃ v', e = .returned v' ∧ Ext none' w w' ∧ NewT SpanE 33 w w' v' (mergeF xs)) := by
  refine enter (n := 121) Try.func22 rfl rfl (Nat.le_of_ble_eq_true rfl) ?_
  intro a0 τ0 ha st0
  have e0 : get a0 0 = v := ha 0 _ rfl
  clear ha
  have hle := hS.le
  refine wp_seq ?_
  refine region_St (bf := [0]) (sp := [
      (det (Nw w) 2 (.slice none 0 0))])
    [] mixed st0 (by kernel_rfl) trivial
    ⟨Ob.det rfl rfl rfl (fun _ a_ _ _ c => r_assign rfl rfl),
     trivial⟩ ?_
  intro a1 w1 τ1 st1 f1
  replace e0 := f1.old e0 (by kernel_rfl)
  have e2 : get a1 2 = (.slice none 0 0) := f1.v 0 rfl
  clear f1
  show Code.wp _ _ _ a1 w1
  refine wp_seq ?_
  refine region_St (bf := [0]) (sp := [
      (det (Nw w) 3 (.slice none 0 0))])
    [] mixed st1 (by kernel_rfl) trivial
    ⟨Ob.det rfl rfl rfl (fun _ a_ _ _ c => r_assign rfl rfl),
     trivial⟩ ?_
  intro a2 w2 τ2 st2 f2
  replace e0 := f2.old e0 (by kernel_rfl)
  replace e2 := f2.old e2 (by kernel_rfl)
  have e3 : get a2 3 = (.slice none 0 0) := f2.v 0 rfl
  clear f2
  show Code.wp _ _ _ a2 w2
  refine wp_seq ?_
  refine wp_seq ?_
  refine region_St (bf := [0]) (sp := [
      (det (Nw w) 4 (.int .i64 (0)))])
    [] mixed st2 (by kernel_rfl) trivial
    ⟨Ob.det rfl rfl rfl (fun _ a_ _ _ c => r_assign rfl rfl),
     trivial⟩ ?_
  intro a3 w3 τ3 st3 f3
  replace e0 := f3.old e0 (by kernel_rfl)
  replace e2 := f3.old e2 (by kernel_rfl)
  replace e3 := f3.old e3 (by kernel_rfl)
  have e4 : get a3 4 = (.int .i64 (0)) := f3.v 0 rfl
  clear f3
  show Code.wp _ _ _ a3 w3
  refine wp_block ?_
  refine wp_loop (fun a_ w_ => ∃ (i : Nat) (o : Value) (τ : Nat → Foot), (i ≤ xs.length) ∧
        St (Nw w) w 121 a_ w_ τ ∧
        get a_ 3 = o ∧
        get a_ 4 = (.int .i64 ((i : Int))) ∧
        get a_ 0 = v ∧
        get a_ 2 = (.slice none 0 0) ∧
        ownR SpanE 33 (isort lessSel (xs.take i)) (τ 0) o w_) (fun a_ _ => xs.length - (intOf (get a_ 4)).toNat) ?_ ?_
  · refine ⟨0, (.slice none 0 0), τ3, ?_, st3, e3, (e4.trans (int_eq (by omega))), e0, e2, ?_⟩
    · omega
    · exact ownR.nil _ _ _ _
  intro a4 w4 hI
  obtain ⟨i, o, τ4, q0, st4, e3, e4, e0, e2, r0⟩ := hI
  have hil := isort_length (lt := lessSel) (xs.take i)
  have htl := List.length_take_le i xs
  have m4 := e4
  refine wp_seq ?_
  refine wp_seq ?_
  refine region_St (bf := [0, 0, 2, 7]) (sp := [
      (det (Nw w) 11 (.int .i64 ((i : Int)))),
        (det (Nw w) 12 v),
        (det (Nw w) 13 (.int .i64 ((xs.length : Int)))),
        (det (Nw w) 14 (.bool (decide ((i : Int) < (xs.length : Int)))))])
    [(iown SpanE 33 (Nw w) o (isort lessSel (xs.take i)))] mixed st4 (by kernel_rfl) ⟨r0, trivial⟩
    ⟨Ob.det rfl rfl rfl (fun _ a_ _ _ c => r_move rfl (c.eo e4 (by kernel_rfl))),
       Ob.det rfl rfl rfl (fun _ a_ _ _ c => r_move rfl (c.eo e0 (by kernel_rfl))),
       Ob.det rfl rfl rfl (fun _ a_ _ _ c => r_len rfl Try.underlying22 (c.ev 1 rfl rfl) hS.sl),
       Ob.det rfl rfl rfl (fun _ a_ _ _ c => r_lss rfl (c.ev 0 rfl rfl) (c.ev 2 rfl rfl)),
     trivial⟩ ?_
  intro a5 w5 τ5 st5 f5
  replace e0 := f5.old e0 (by kernel_rfl)
  replace e2 := f5.old e2 (by kernel_rfl)
  replace e3 := f5.old e3 (by kernel_rfl)
  replace e4 := f5.old e4 (by kernel_rfl)
  have e14 : get a5 14 = (.bool (decide ((i : Int) < (xs.length : Int)))) := f5.v 3 rfl
  replace r0 : ownR SpanE 33 (isort lessSel (xs.take i)) (τ5 0) o w5 := f5.iown 0 rfl rfl
  clear f5
  show Code.wp _ _ _ a5 w5
  refine wp_cond_split (t := decide ((i : Int) < (xs.length : Int))) e14 (fun hc1 => ?_) (fun hc1 => ?_)
  · try simp only [Bool.and_eq_true, Bool.or_eq_true, decide_eq_true_eq, decide_eq_false_iff_not, Bool.not_eq_true', Bool.and_eq_false_iff, Bool.or_eq_false_iff, Bool.not_eq_false', Int.not_lt, Int.not_le, beq_iff_eq, selB] at hc1
    refine wp_skip ?_
    show Code.wp _ _ _ a5 w5
    refine wp_seq ?_
    refine wp_block ?_
    refine wp_seq ?_
    refine region_St (bf := [0, 1, 3]) (sp := [
        (det (Nw w) 17 o),
            (det (Nw w) 18 (.int .i64 (((isort lessSel (xs.take i)).length : Int)))),
            (det (Nw w) 5 (.int .i64 (((isort lessSel (xs.take i)).length : Int))))])
      [(iown SpanE 33 (Nw w) o (isort lessSel (xs.take i)))] mixed st5 (by kernel_rfl) ⟨r0, trivial⟩
      ⟨Ob.det rfl rfl rfl (fun _ a_ _ _ c => r_move rfl (c.eo e3 (by kernel_rfl))),
           Ob.det rfl rfl rfl (fun _ a_ _ _ c => r_len rfl Try.underlying22 (c.ev 0 rfl rfl) r0.isSl),
           Ob.det rfl rfl rfl (fun _ a_ _ _ c => r_assign rfl (c.ev 1 rfl rfl)),
       trivial⟩ ?_
    intro a6 w6 τ6 st6 f6
    replace e0 := f6.old e0 (by kernel_rfl)
    replace e2 := f6.old e2 (by kernel_rfl)
    replace e3 := f6.old e3 (by kernel_rfl)
    replace e4 := f6.old e4 (by kernel_rfl)
    have e5 : get a6 5 = (.int .i64 (((isort lessSel (xs.take i)).length : Int))) := f6.v 2 rfl
    replace e14 := f6.old e14 (by kernel_rfl)
    replace r0 : ownR SpanE 33 (isort lessSel (xs.take i)) (τ6 0) o w6 := f6.iown 0 rfl rfl
    clear f6
    show Code.wp _ _ _ a6 w6
    refine wp_seq ?_
    refine wp_block ?_
    refine wp_loop (fun a_ w_ => ∃ (k : Nat) (τ : Nat → Foot), (k ≤ (isort lessSel (xs.take i)).length) ∧
            (∀ q ∈ (isort lessSel (xs.take i)).drop k, lessSel (nth xs (i : Int)) q = true) ∧
            St (Nw w) w 121 a_ w_ τ ∧
            get a_ 5 = (.int .i64 ((k : Int))) ∧
            get a_ 0 = v ∧
            get a_ 2 = (.slice none 0 0) ∧
            get a_ 3 = o ∧
            get a_ 4 = (.int .i64 ((i : Int))) ∧
            get a_ 14 = (.bool (decide ((i : Int) < (xs.length : Int)))) ∧
            ownR SpanE 33 (isort lessSel (xs.take i)) (τ 0) o w_) (fun a_ _ => (intOf (get a_ 5)).toNat) ?_ ?_
    · refine ⟨(isort lessSel (xs.take i)).length, τ6, ?_, ?_, st6, (e5.trans (int_eq (by omega))), e0, e2, e3, e4, e14, r0⟩
      · omega
      · simp
    intro a7 w7 hI
    obtain ⟨k, τ7, q0, q1, st7, e5, e0, e2, e3, e4, e14, r0⟩ := hI
    have m5 := e5
    refine wp_seq ?_
    refine wp_seq ?_
    refine region_St (bf := [0, 1, 3, 7, 7, 31, 63, 127, 7, 7, 519, 1799, 3847, 8191, 16383, 32767]) (sp := [
        (det (Nw w) 19 (.int .i64 ((k : Int)))),
            (det (Nw w) 20 (.bool (decide (0 < (k : Int))))),
            (det (Nw w) 21 (.bool (decide (0 < (k : Int))))),
            (gdet (Nw w) 22 ((decide (0 < (k : Int))) = true) v),
            (gdet (Nw w) 23 ((decide (0 < (k : Int))) = true) (.int .i64 ((i : Int)))),
            (gdet (Nw w) 24 ((decide (0 < (k : Int))) = true) (.pointer (some ((ptrOf v).add (((i : Int) : Int).toNat * 2))))),
            (gdet (Nw w) 25 ((decide (0 < (k : Int))) = true) (.agg #[(.int .i64 ((nth xs ((i : Int))).1)), (.int .i64 ((nth xs ((i : Int))).2))])),
            (gdet (Nw w) 26 ((decide (0 < (k : Int))) = true) (.agg #[(.int .i64 ((sspan (nth xs ((i : Int)))).1)), (.int .i64 ((sspan (nth xs ((i : Int)))).2))])),
            (gdet (Nw w) 27 ((decide (0 < (k : Int))) = true) o),
            (gdet (Nw w) 28 ((decide (0 < (k : Int))) = true) (.int .i64 ((k : Int)))),
            (gdet (Nw w) 29 ((decide (0 < (k : Int))) = true) (.int .i64 ((k : Int) - 1))),
            (gdet (Nw w) 30 ((decide (0 < (k : Int))) = true) (.pointer (some ((ptrOf o).add (((k : Int) - 1 : Int).toNat * 2))))),
            (gdet (Nw w) 31 ((decide (0 < (k : Int))) = true) (.agg #[(.int .i64 ((nth (isort lessSel (xs.take i)) ((k : Int) - 1)).1)), (.int .i64 ((nth (isort lessSel (xs.take i)) ((k : Int) - 1)).2))])),
            (gdet (Nw w) 32 ((decide (0 < (k : Int))) = true) (.agg #[(.int .i64 ((sspan (nth (isort lessSel (xs.take i)) ((k : Int) - 1))).1)), (.int .i64 ((sspan (nth (isort lessSel (xs.take i)) ((k : Int) - 1))).2))])),
            (gdet (Nw w) 33 ((decide (0 < (k : Int))) = true) (.bool (lessB (sspan (nth xs ((i : Int)))) (sspan (nth (isort lessSel (xs.take i)) ((k : Int) - 1)))))),
            (det (Nw w) 34 (.bool ((decide (0 < (k : Int))) && (lessB (sspan (nth xs ((i : Int)))) (sspan (nth (isort lessSel (xs.take i)) ((k : Int) - 1)))))))])
      [(iown SpanE 33 (Nw w) o (isort lessSel (xs.take i)))] mixed st7 (by kernel_rfl) ⟨r0, trivial⟩
      ⟨Ob.det rfl rfl rfl (fun _ a_ _ _ c => r_move rfl (c.eo e5 (by kernel_rfl))),
           Ob.det rfl rfl rfl (fun _ a_ _ _ c => r_gtr rfl (c.ev 0 rfl rfl) rfl),
           Ob.det rfl rfl rfl (fun _ a_ _ _ c => r_move rfl (c.ev 1 rfl rfl)),
           Ob.gdet rfl rfl rfl rfl (gi := 2) (tg := 21) rfl rfl Iff.rfl (fun _ a_ _ _ c hpc => r_move rfl (c.eo e0 (by kernel_rfl))),
           Ob.gdet rfl rfl rfl rfl (gi := 2) (tg := 21) rfl rfl Iff.rfl (fun _ a_ _ _ c hpc => r_move rfl (c.eo e4 (by kernel_rfl))),
           Ob.gdet rfl rfl rfl rfl (gi := 2) (tg := 21) rfl rfl Iff.rfl (fun _ a_ _ _ c hpc => r_indexAddr rfl Try.underlying22 Try.sizeOf33 (c.eg 3 rfl rfl hpc) hS.sl (c.eg 4 rfl rfl hpc) (by have hq0 := hpc; (try simp only [Bool.and_eq_true, Bool.or_eq_true, decide_eq_true_eq, decide_eq_false_iff_not, Bool.not_eq_true', Bool.and_eq_false_iff, Bool.or_eq_false_iff, Bool.not_eq_false', Int.not_lt, Int.not_le, beq_iff_eq, selB] at hq0); omega) (by have hq0 := hpc; (try simp only [Bool.and_eq_true, Bool.or_eq_true, decide_eq_true_eq, decide_eq_false_iff_not, Bool.not_eq_true', Bool.and_eq_false_iff, Bool.or_eq_false_iff, Bool.not_eq_false', Int.not_lt, Int.not_le, beq_iff_eq, selB] at hq0); omega)),
           Ob.gdet rfl rfl rfl rfl (gi := 2) (tg := 21) rfl rfl Iff.rfl (fun _ a_ _ _ c hpc => r_loadN (vs := [(.int .i64 ((nth xs ((i : Int))).1)), (.int .i64 ((nth xs ((i : Int))).2))]) rfl Try.isAgg33 Try.sizeOf33 (c.eg 5 rfl rfl hpc) rfl (fun _ _ hj => ((hS.at (st7.ext.trans c.J.ext))).elem (nth_some (by have hq0 := hpc; (try simp only [Bool.and_eq_true, Bool.or_eq_true, decide_eq_true_eq, decide_eq_false_iff_not, Bool.not_eq_true', Bool.and_eq_false_iff, Bool.or_eq_false_iff, Bool.not_eq_false', Int.not_lt, Int.not_le, beq_iff_eq, selB] at hq0); omega) (by have hq0 := hpc; (try simp only [Bool.and_eq_true, Bool.or_eq_true, decide_eq_true_eq, decide_eq_false_iff_not, Bool.not_eq_true', Bool.and_eq_false_iff, Bool.or_eq_false_iff, Bool.not_eq_false', Int.not_lt, Int.not_le, beq_iff_eq, selB] at hq0); omega)) hj)),
           Ob.gcall rfl rfl rfl rfl (gi := 2) (tg := 21) rfl rfl Iff.rfl (fun _ a_ _ _ c hpc => ⟨_, _, (e_call1 rfl rfl Try.call21 (c.eg 6 rfl rfl hpc)), refSelSpan_c (nth xs ((i : Int))) _⟩),
           Ob.gdet rfl rfl rfl rfl (gi := 2) (tg := 21) rfl rfl Iff.rfl (fun _ a_ _ _ c hpc => r_move rfl (c.eo e3 (by kernel_rfl))),
           Ob.gdet rfl rfl rfl rfl (gi := 2) (tg := 21) rfl rfl Iff.rfl (fun _ a_ _ _ c hpc => r_move rfl (c.eo e5 (by kernel_rfl))),
           Ob.gdet rfl rfl rfl rfl (gi := 2) (tg := 21) rfl rfl Iff.rfl (fun _ a_ _ _ c hpc => r_sub rfl (c.eg 9 rfl rfl hpc) rfl (by have hq0 := hpc; (try simp only [Bool.and_eq_true, Bool.or_eq_true, decide_eq_true_eq, decide_eq_false_iff_not, Bool.not_eq_true', Bool.and_eq_false_iff, Bool.or_eq_false_iff, Bool.not_eq_false', Int.not_lt, Int.not_le, beq_iff_eq, selB] at hq0); omega)),
           Ob.gdet rfl rfl rfl rfl (gi := 2) (tg := 21) rfl rfl Iff.rfl (fun _ a_ _ _ c hpc => r_indexAddr rfl Try.underlying22 Try.sizeOf33 (c.eg 8 rfl rfl hpc) r0.isSl (c.eg 10 rfl rfl hpc) (by have hq0 := hpc; (try simp only [Bool.and_eq_true, Bool.or_eq_true, decide_eq_true_eq, decide_eq_false_iff_not, Bool.not_eq_true', Bool.and_eq_false_iff, Bool.or_eq_false_iff, Bool.not_eq_false', Int.not_lt, Int.not_le, beq_iff_eq, selB] at hq0); omega) (by have hq0 := hpc; (try simp only [Bool.and_eq_true, Bool.or_eq_true, decide_eq_true_eq, decide_eq_false_iff_not, Bool.not_eq_true', Bool.and_eq_false_iff, Bool.or_eq_false_iff, Bool.not_eq_false', Int.not_lt, Int.not_le, beq_iff_eq, selB] at hq0); omega)),
           Ob.gdet rfl rfl rfl rfl (gi := 2) (tg := 21) rfl rfl Iff.rfl (fun _ a_ _ _ c hpc => r_loadN (vs := [(.int .i64 ((nth (isort lessSel (xs.take i)) ((k : Int) - 1)).1)), (.int .i64 ((nth (isort lessSel (xs.take i)) ((k : Int) - 1)).2))]) rfl Try.isAgg33 Try.sizeOf33 (c.eg 11 rfl rfl hpc) rfl (fun _ _ hj => ((c.iown 0 rfl rfl (by kernel_rfl)).1.sl).elem (nth_some (by have hq0 := hpc; (try simp only [Bool.and_eq_true, Bool.or_eq_true, decide_eq_true_eq, decide_eq_false_iff_not, Bool.not_eq_true', Bool.and_eq_false_iff, Bool.or_eq_false_iff, Bool.not_eq_false', Int.not_lt, Int.not_le, beq_iff_eq, selB] at hq0); omega) (by have hq0 := hpc; (try simp only [Bool.and_eq_true, Bool.or_eq_true, decide_eq_true_eq, decide_eq_false_iff_not, Bool.not_eq_true', Bool.and_eq_false_iff, Bool.or_eq_false_iff, Bool.not_eq_false', Int.not_lt, Int.not_le, beq_iff_eq, selB] at hq0); omega)) hj)),
           Ob.gcall rfl rfl rfl rfl (gi := 2) (tg := 21) rfl rfl Iff.rfl (fun _ a_ _ _ c hpc => ⟨_, _, (e_call1 rfl rfl Try.call21 (c.eg 12 rfl rfl hpc)), refSelSpan_c (nth (isort lessSel (xs.take i)) ((k : Int) - 1)) _⟩),
           Ob.gcall rfl rfl rfl rfl (gi := 2) (tg := 21) rfl rfl Iff.rfl (fun _ a_ _ _ c hpc => ⟨_, _, (e_call2 rfl rfl Try.call30 (c.eg 7 rfl rfl hpc) (c.eg 13 rfl rfl hpc)), refLess_c (sspan (nth xs ((i : Int)))) (sspan (nth (isort lessSel (xs.take i)) ((k : Int) - 1))) _⟩),
           Ob.det rfl rfl rfl (fun _ a_ _ _ c => r_and rfl (c.ev 2 rfl rfl) (fun h => (c.eg 14 rfl rfl h))),
       trivial⟩ ?_
    intro a8 w8 τ8 st8 f8
    replace e0 := f8.old e0 (by kernel_rfl)
    replace e2 := f8.old e2 (by kernel_rfl)
    replace e3 := f8.old e3 (by kernel_rfl)
    replace e4 := f8.old e4 (by kernel_rfl)
    replace e5 := f8.old e5 (by kernel_rfl)
    replace e14 := f8.old e14 (by kernel_rfl)
    have e34 : get a8 34 = (.bool ((decide (0 < (k : Int))) && (lessB (sspan (nth xs ((i : Int)))) (sspan (nth (isort lessSel (xs.take i)) ((k : Int) - 1)))))) := f8.v 15 rfl
    replace r0 : ownR SpanE 33 (isort lessSel (xs.take i)) (τ8 0) o w8 := f8.iown 0 rfl rfl
    clear f8
    show Code.wp _ _ _ a8 w8
    refine wp_cond_split (t := (decide (0 < (k : Int))) && (lessB (sspan (nth xs ((i : Int)))) (sspan (nth (isort lessSel (xs.take i)) ((k : Int) - 1))))) e34 (fun hc2 => ?_) (fun hc2 => ?_)
    · have hd2 := hc2; try simp only [Bool.and_eq_true, Bool.or_eq_true, decide_eq_true_eq, decide_eq_false_iff_not, Bool.not_eq_true', Bool.and_eq_false_iff, Bool.or_eq_false_iff, Bool.not_eq_false', Int.not_lt, Int.not_le, beq_iff_eq, selB] at hd2
      refine wp_skip ?_
      show Code.wp _ _ _ a8 w8
      refine wp_block ?_
      refine region_St (bf := [0, 1, 3]) (sp := [
          (det (Nw w) 35 (.int .i64 ((k : Int)))),
                (det (Nw w) 36 (.int .i64 ((k : Int) - 1))),
                (det (Nw w) 5 (.int .i64 ((k : Int) - 1)))])
        [(iown SpanE 33 (Nw w) o (isort lessSel (xs.take i)))] mixed st8 (by kernel_rfl) ⟨r0, trivial⟩
        ⟨Ob.det rfl rfl rfl (fun _ a_ _ _ c => r_move rfl (c.eo e5 (by kernel_rfl))),
               Ob.det rfl rfl rfl (fun _ a_ _ _ c => r_sub rfl (c.ev 0 rfl rfl) rfl (by omega)),
               Ob.det rfl rfl rfl (fun _ a_ _ _ c => r_assign rfl (c.ev 1 rfl rfl)),
         trivial⟩ ?_
      intro a9 w9 τ9 st9 f9
      replace e0 := f9.old e0 (by kernel_rfl)
      replace e2 := f9.old e2 (by kernel_rfl)
      replace e3 := f9.old e3 (by kernel_rfl)
      replace e4 := f9.old e4 (by kernel_rfl)
      have e5 : get a9 5 = (.int .i64 ((k : Int) - 1)) := f9.v 2 rfl
      replace e14 := f9.old e14 (by kernel_rfl)
      replace e34 := f9.old e34 (by kernel_rfl)
      replace r0 : ownR SpanE 33 (isort lessSel (xs.take i)) (τ9 0) o w9 := f9.iown 0 rfl rfl
      clear f9
      show _
      refine ⟨⟨k - 1, τ9, ?_, ?_, st9, (e5.trans (int_eq (by omega))), e0, e2, e3, e4, e14, r0⟩, ?_⟩
      · omega
      · obtain ⟨h1_, h_⟩ := (by assumption : (0 : Int) < (k : Int) ∧ lessB (sspan (nth xs (i : Int))) (sspan (nth (isort lessSel (xs.take i)) ((k : Int) - 1))) = true); exact down_step (lt := lessSel) (by omega) q0 q1 h_
      · simp only [m5, e5, intOf]; omega
    have hd2 := hc2; try simp only [Bool.and_eq_true, Bool.or_eq_true, decide_eq_true_eq, decide_eq_false_iff_not, Bool.not_eq_true', Bool.and_eq_false_iff, Bool.or_eq_false_iff, Bool.not_eq_false', Int.not_lt, Int.not_le, beq_iff_eq, selB] at hd2
    refine wp_exit ?_
    repeat (with_reducible refine then_exit ?_)
    refine exit_here ?_
    show Code.wp _ _ _ a8 w8
    refine region_St (bf := [0, 0, 0, 6, 15, 0, 0, 96, 224, 480, 1023, 0, 0, 6144, 16383, 32767]) (sp := [
        (own SpanE 33 (Nw w) 2 37 ([])),
            (det (Nw w) 38 o),
            (det (Nw w) 39 (.int .i64 ((k : Int)))),
            (det (Nw w) 40 (subV o 0 k 2)),
            (own SpanE 33 (Nw w) 2 41 (([]) ++ (((isort lessSel (xs.take i)).drop 0).take (k - 0)))),
            (det (Nw w) 42 v),
            (det (Nw w) 43 (.int .i64 ((i : Int)))),
            (det (Nw w) 44 (.pointer (some ((ptrOf v).add (((i : Int) : Int).toNat * 2))))),
            (det (Nw w) 45 (.agg #[(.int .i64 ((nth xs ((i : Int))).1)), (.int .i64 ((nth xs ((i : Int))).2))])),
            (own SpanE 33 (Nw w) 3 46 ([(nth xs ((i : Int)))])),
            (own SpanE 33 (Nw w) 2 47 ((([]) ++ (((isort lessSel (xs.take i)).drop 0).take (k - 0))) ++ ([(nth xs ((i : Int)))]))),
            (det (Nw w) 48 o),
            (det (Nw w) 49 (.int .i64 ((k : Int)))),
            (det (Nw w) 50 (subV o k ((isort lessSel (xs.take i)).length) 2)),
            (own SpanE 33 (Nw w) 2 51 (((([]) ++ (((isort lessSel (xs.take i)).drop 0).take (k - 0))) ++ ([(nth xs ((i : Int)))])) ++ (((isort lessSel (xs.take i)).drop k).take (((isort lessSel (xs.take i)).length) - k)))),
            (own SpanE 33 (Nw w) 2 3 (((([]) ++ (((isort lessSel (xs.take i)).drop 0).take (k - 0))) ++ ([(nth xs ((i : Int)))])) ++ (((isort lessSel (xs.take i)).drop k).take (((isort lessSel (xs.take i)).length) - k))))])
      [(iown SpanE 33 (Nw w) o (isort lessSel (xs.take i)))] mixed st8 (by kernel_rfl) ⟨r0, trivial⟩
      ⟨Ob.buildEmpty rfl rfl rfl rfl Try.underlying22 Try.sizeOf33,
           Ob.det rfl rfl rfl (fun _ a_ _ _ c => r_move rfl (c.eo e3 (by kernel_rfl))),
           Ob.det rfl rfl rfl (fun _ a_ _ _ c => r_move rfl (c.eo e5 (by kernel_rfl))),
           Ob.det rfl rfl rfl (fun _ a_ _ _ c => r_sliceHi rfl Try.underlying22 Try.sizeOf33 (c.ev 1 rfl rfl) r0.isSl (c.ev 2 rfl rfl) (by omega) (by omega)),
           Ob.append (t0 := 37) rfl rfl rfl rfl Try.underlying22 (i := Try.t33) rfl rfl rfl rfl (by simp only [maxLen]; (try simp); omega) (by show _ * 16 ≤ _; (try simp); omega) (fun _ _ _ _ c => ⟨c.rown 0 rfl rfl (by kernel_rfl), rfl, ⟨_, (c.ev 3 rfl rfl), ((c.iown 0 rfl rfl (by kernel_rfl)).1.sl.sub (lo := 0) (hi := k) (by omega) (by omega))⟩⟩),
           Ob.det rfl rfl rfl (fun _ a_ _ _ c => r_move rfl (c.eo e0 (by kernel_rfl))),
           Ob.det rfl rfl rfl (fun _ a_ _ _ c => r_move rfl (c.eo e4 (by kernel_rfl))),
           Ob.det rfl rfl rfl (fun _ a_ _ _ c => r_indexAddr rfl Try.underlying22 Try.sizeOf33 (c.ev 5 rfl rfl) hS.sl (c.ev 6 rfl rfl) (by omega) (by omega)),
           Ob.det rfl rfl rfl (fun _ a_ _ _ c => r_loadN (vs := [(.int .i64 ((nth xs ((i : Int))).1)), (.int .i64 ((nth xs ((i : Int))).2))]) rfl Try.isAgg33 Try.sizeOf33 (c.ev 7 rfl rfl) rfl (fun _ _ hj => ((hS.at (st8.ext.trans c.J.ext))).elem (nth_some (by omega) (by omega)) hj)),
           Ob.buildSlice (cells := #[(.int .i64 ((nth xs ((i : Int))).1)), (.int .i64 ((nth xs ((i : Int))).2))]) rfl rfl rfl rfl Try.underlying22 Try.sizeOf33 Try.zeroValue33 rfl (by decide) (by decide) (fun _ a_ _ _ c => by simp only [List.map_toArray, List.map_cons, List.map_nil, (show a_.eval (.tmp 45) = (.agg #[(.int .i64 ((nth xs ((i : Int))).1)), (.int .i64 ((nth xs ((i : Int))).2))]) from (c.ev 8 rfl rfl))]; kernel_rfl) rfl,
           Ob.append (t0 := 41) rfl rfl rfl rfl Try.underlying22 (i := Try.t33) rfl rfl rfl rfl (by simp only [maxLen]; (try simp); omega) (by show _ * 16 ≤ _; (try simp); omega) (fun _ _ _ _ c => ⟨c.rown 4 rfl rfl (by kernel_rfl), rfl, ⟨_, rfl, (c.rown 9 rfl rfl (by kernel_rfl)).1.sl⟩⟩),
           Ob.det rfl rfl rfl (fun _ a_ _ _ c => r_move rfl (c.eo e3 (by kernel_rfl))),
           Ob.det rfl rfl rfl (fun _ a_ _ _ c => r_move rfl (c.eo e5 (by kernel_rfl))),
           Ob.det rfl rfl rfl (fun _ a_ _ _ c => r_sliceLo rfl Try.underlying22 Try.sizeOf33 (c.ev 11 rfl rfl) r0.isSl (c.ev 12 rfl rfl) (by omega) (by omega)),
           Ob.append (t0 := 47) rfl rfl rfl rfl Try.underlying22 (i := Try.t33) rfl rfl rfl rfl (by simp only [maxLen]; (try simp); omega) (by show _ * 16 ≤ _; (try simp); omega) (fun _ _ _ _ c => ⟨c.rown 10 rfl rfl (by kernel_rfl), rfl, ⟨_, (c.ev 13 rfl rfl), ((c.iown 0 rfl rfl (by kernel_rfl)).1.sl.sub (lo := k) (hi := (isort lessSel (xs.take i)).length) (by omega) (by omega))⟩⟩),
           Ob.moveT (t0 := 51) rfl rfl rfl rfl rfl (.inr rfl) (fun _ _ _ _ c => ⟨c.rown 14 rfl rfl (by kernel_rfl), rfl⟩),
       trivial⟩ ?_
    intro a10 w10 τ10 st10 f10
    obtain ⟨b10x3, e3⟩ : ∃ b, get a10 3 = b := ⟨_, rfl⟩
    obtain ⟨b10x46, e46⟩ : ∃ b, get a10 46 = b := ⟨_, rfl⟩
    replace e0 := f10.old e0 (by kernel_rfl)
    replace e2 := f10.old e2 (by kernel_rfl)
    replace e4 := f10.old e4 (by kernel_rfl)
    replace e5 := f10.old e5 (by kernel_rfl)
    replace e14 := f10.old e14 (by kernel_rfl)
    replace e34 := f10.old e34 (by kernel_rfl)
    replace r0 : ownR SpanE 33 (isort lessSel (xs.take i)) (τ10 0) o w10 := f10.iown 0 rfl rfl
    have r2 : ownR SpanE 33 (((([]) ++ (((isort lessSel (xs.take i)).drop 0).take (k - 0))) ++ ([(nth xs ((i : Int)))])) ++ (((isort lessSel (xs.take i)).drop k).take (((isort lessSel (xs.take i)).length) - k))) (τ10 2) b10x3 w10 := f10.rown 15 rfl rfl e3
    have r3 : ownR SpanE 33 ([(nth xs ((i : Int)))]) (τ10 3) b10x46 w10 := f10.rown 9 rfl rfl e46
    clear f10
    show _
    show Code.wp _ _ _ a10 w10
    refine region_St (bf := [0, 1, 3]) (sp := [
        (det (Nw w) 15 (.int .i64 ((i : Int)))),
            (det (Nw w) 16 (.int .i64 ((i : Int) + 1))),
            (det (Nw w) 4 (.int .i64 ((i : Int) + 1)))])
      [(iown SpanE 33 (Nw w) o (isort lessSel (xs.take i))), (Ini.any (Nw w)), (iown SpanE 33 (Nw w) b10x3 (((([]) ++ (((isort lessSel (xs.take i)).drop 0).take (k - 0))) ++ ([(nth xs ((i : Int)))])) ++ (((isort lessSel (xs.take i)).drop k).take (((isort lessSel (xs.take i)).length) - k)))), (iown SpanE 33 (Nw w) b10x46 ([(nth xs ((i : Int)))]))] mixed st10 (by kernel_rfl) ⟨r0, trivial, r2, r3, trivial⟩
      ⟨Ob.det rfl rfl rfl (fun _ a_ _ _ c => r_move rfl (c.eo e4 (by kernel_rfl))),
           Ob.det rfl rfl rfl (fun _ a_ _ _ c => r_add rfl (c.ev 0 rfl rfl) rfl (by omega)),
           Ob.det rfl rfl rfl (fun _ a_ _ _ c => r_assign rfl (c.ev 1 rfl rfl)),
       trivial⟩ ?_
    intro a11 w11 τ11 st11 f11
    replace e0 := f11.old e0 (by kernel_rfl)
    replace e2 := f11.old e2 (by kernel_rfl)
    replace e3 := f11.old e3 (by kernel_rfl)
    have e4 : get a11 4 = (.int .i64 ((i : Int) + 1)) := f11.v 2 rfl
    replace e5 := f11.old e5 (by kernel_rfl)
    replace e14 := f11.old e14 (by kernel_rfl)
    replace e34 := f11.old e34 (by kernel_rfl)
    replace r0 : ownR SpanE 33 (isort lessSel (xs.take i)) (τ11 0) o w11 := f11.iown 0 rfl rfl
    replace r2 : ownR SpanE 33 (((([]) ++ (((isort lessSel (xs.take i)).drop 0).take (k - 0))) ++ ([(nth xs ((i : Int)))])) ++ (((isort lessSel (xs.take i)).drop k).take (((isort lessSel (xs.take i)).length) - k))) (τ11 2) b10x3 w11 := f11.iown 2 rfl rfl
    replace r3 : ownR SpanE 33 ([(nth xs ((i : Int)))]) (τ11 3) b10x46 w11 := f11.iown 3 rfl rfl
    clear f11
    refine ⟨⟨i + 1, b10x3, (retag τ11 [(0, 2)]), ?_, (st11.retag [(0, 2)] (by decide)), e3, (e4.trans (int_eq (by omega))), e0, e2, ?_⟩, ?_⟩
    · omega
    · exact r2.cast (by exact refIns (by omega) q0 q1 (by assumption))
    · simp only [m4, e4, intOf]; omega
  try simp only [Bool.and_eq_true, Bool.or_eq_true, decide_eq_true_eq, decide_eq_false_iff_not, Bool.not_eq_true', Bool.and_eq_false_iff, Bool.or_eq_false_iff, Bool.not_eq_false', Int.not_lt, Int.not_le, beq_iff_eq, selB] at hc1
  refine wp_exit ?_
  repeat (with_reducible refine then_exit ?_)
  refine exit_here ?_
  show Code.wp _ _ _ a5 w5
  refine wp_seq ?_
  refine region_St (bf := [0]) (sp := [
      (det (Nw w) 6 (.slice none 0 0))])
    [(iown SpanE 33 (Nw w) o (isort lessSel (xs.take i)))] mixed st5 (by kernel_rfl) ⟨r0, trivial⟩
    ⟨Ob.det rfl rfl rfl (fun _ a_ _ _ c => r_assign rfl rfl),
     trivial⟩ ?_
  intro a12 w12 τ12 st12 f12
  replace e2 := f12.old e2 (by kernel_rfl)
  replace e3 := f12.old e3 (by kernel_rfl)
  have e6 : get a12 6 = (.slice none 0 0) := f12.v 0 rfl
  replace r0 : ownR SpanE 33 (isort lessSel (xs.take i)) (τ12 0) o w12 := f12.iown 0 rfl rfl
  clear f12
  replace r0 := r0.cast (show isort lessSel xs = isort lessSel (xs.take i) from by rw [List.take_of_length_le (by omega)])
  have hll := isort_length (lt := lessSel) xs
  show Code.wp _ _ _ a12 w12
  refine wp_seq ?_
  refine wp_seq ?_
  refine region_St (bf := [0]) (sp := [
      (det (Nw w) 7 (.int .i64 (0)))])
    [(iown SpanE 33 (Nw w) o (isort lessSel xs))] mixed st12 (by kernel_rfl) ⟨r0, trivial⟩
    ⟨Ob.det rfl rfl rfl (fun _ a_ _ _ c => r_assign rfl rfl),
     trivial⟩ ?_
  intro a13 w13 τ13 st13 f13
  replace e2 := f13.old e2 (by kernel_rfl)
  replace e3 := f13.old e3 (by kernel_rfl)
  replace e6 := f13.old e6 (by kernel_rfl)
  have e7 : get a13 7 = (.int .i64 (0)) := f13.v 0 rfl
  replace r0 : ownR SpanE 33 (isort lessSel xs) (τ13 0) o w13 := f13.iown 0 rfl rfl
  clear f13
  show Code.wp _ _ _ a13 w13
  refine wp_block ?_
  refine wp_loop (fun a_ w_ => ∃ (m : Nat) (u : Value) (τ : Nat → Foot), (m ≤ xs.length) ∧
        St (Nw w) w 121 a_ w_ τ ∧
        get a_ 6 = u ∧
        get a_ 7 = (.int .i64 ((m : Int))) ∧
        get a_ 2 = (.slice none 0 0) ∧
        get a_ 3 = o ∧
        ownR SpanE 33 (foldR ((isort lessSel xs).take m)) (τ 1) u w_ ∧
        ownR SpanE 33 (isort lessSel xs) (τ 0) o w_) (fun a_ _ => xs.length - (intOf (get a_ 7)).toNat) ?_ ?_
  · refine ⟨0, (.slice none 0 0), τ13, ?_, st13, e6, (e7.trans (int_eq (by omega))), e2, e3, ?_, r0⟩
    · omega
    · exact ownR.nil _ _ _ _
  intro a14 w14 hI
  obtain ⟨m, u, τ14, q0, st14, e6, e7, e2, e3, r1, r0⟩ := hI
  have hml := foldR_take (xs := isort lessSel xs) (k := m)
  have m7 := e7
  refine wp_seq ?_
  refine wp_seq ?_
  refine region_St (bf := [0, 0, 2, 7]) (sp := [
      (det (Nw w) 52 (.int .i64 ((m : Int)))),
        (det (Nw w) 53 o),
        (det (Nw w) 54 (.int .i64 (((isort lessSel xs).length : Int)))),
        (det (Nw w) 55 (.bool (decide ((m : Int) < ((isort lessSel xs).length : Int)))))])
    [(iown SpanE 33 (Nw w) o (isort lessSel xs)), (iown SpanE 33 (Nw w) u (foldR ((isort lessSel xs).take m)))] mixed st14 (by kernel_rfl) ⟨r0, r1, trivial⟩
    ⟨Ob.det rfl rfl rfl (fun _ a_ _ _ c => r_move rfl (c.eo e7 (by kernel_rfl))),
       Ob.det rfl rfl rfl (fun _ a_ _ _ c => r_move rfl (c.eo e3 (by kernel_rfl))),
       Ob.det rfl rfl rfl (fun _ a_ _ _ c => r_len rfl Try.underlying22 (c.ev 1 rfl rfl) r0.isSl),
       Ob.det rfl rfl rfl (fun _ a_ _ _ c => r_lss rfl (c.ev 0 rfl rfl) (c.ev 2 rfl rfl)),
     trivial⟩ ?_
  intro a15 w15 τ15 st15 f15
  replace e2 := f15.old e2 (by kernel_rfl)
  replace e3 := f15.old e3 (by kernel_rfl)
  replace e6 := f15.old e6 (by kernel_rfl)
  replace e7 := f15.old e7 (by kernel_rfl)
  have e55 : get a15 55 = (.bool (decide ((m : Int) < ((isort lessSel xs).length : Int)))) := f15.v 3 rfl
  replace r0 : ownR SpanE 33 (isort lessSel xs) (τ15 0) o w15 := f15.iown 0 rfl rfl
  replace r1 : ownR SpanE 33 (foldR ((isort lessSel xs).take m)) (τ15 1) u w15 := f15.iown 1 rfl rfl
  clear f15
  show Code.wp _ _ _ a15 w15
  refine wp_cond_split (t := decide ((m : Int) < ((isort lessSel xs).length : Int))) e55 (fun hc3 => ?_) (fun hc3 => ?_)
  · try simp only [Bool.and_eq_true, Bool.or_eq_true, decide_eq_true_eq, decide_eq_false_iff_not, Bool.not_eq_true', Bool.and_eq_false_iff, Bool.or_eq_false_iff, Bool.not_eq_false', Int.not_lt, Int.not_le, beq_iff_eq, selB] at hc3
    refine wp_skip ?_
    show Code.wp _ _ _ a15 w15
    refine wp_seq ?_
    refine wp_block ?_
    refine wp_seq ?_
    refine region_St (bf := [0, 1, 3]) (sp := [
        (det (Nw w) 58 u),
            (det (Nw w) 59 (.int .i64 (((foldR ((isort lessSel xs).take m)).length : Int)))),
            (det (Nw w) 8 (.int .i64 (((foldR ((isort lessSel xs).take m)).length : Int))))])
      [(iown SpanE 33 (Nw w) o (isort lessSel xs)), (iown SpanE 33 (Nw w) u (foldR ((isort lessSel xs).take m)))] mixed st15 (by kernel_rfl) ⟨r0, r1, trivial⟩
      ⟨Ob.det rfl rfl rfl (fun _ a_ _ _ c => r_move rfl (c.eo e6 (by kernel_rfl))),
           Ob.det rfl rfl rfl (fun _ a_ _ _ c => r_len rfl Try.underlying22 (c.ev 0 rfl rfl) r1.isSl),
           Ob.det rfl rfl rfl (fun _ a_ _ _ c => r_assign rfl (c.ev 1 rfl rfl)),
       trivial⟩ ?_
    intro a16 w16 τ16 st16 f16
    replace e2 := f16.old e2 (by kernel_rfl)
    replace e3 := f16.old e3 (by kernel_rfl)
    replace e6 := f16.old e6 (by kernel_rfl)
    replace e7 := f16.old e7 (by kernel_rfl)
    have e8 : get a16 8 = (.int .i64 (((foldR ((isort lessSel xs).take m)).length : Int))) := f16.v 2 rfl
    replace e55 := f16.old e55 (by kernel_rfl)
    replace r0 : ownR SpanE 33 (isort lessSel xs) (τ16 0) o w16 := f16.iown 0 rfl rfl
    replace r1 : ownR SpanE 33 (foldR ((isort lessSel xs).take m)) (τ16 1) u w16 := f16.iown 1 rfl rfl
    clear f16
    show Code.wp _ _ _ a16 w16
    refine wp_seq ?_
    refine region_St (bf := [0, 1, 3, 7, 7, 23, 63, 127, 255, 7, 7, 1543, 3591, 8191, 16383, 32767]) (sp := [
        (det (Nw w) 60 (.int .i64 (((foldR ((isort lessSel xs).take m)).length : Int)))),
            (det (Nw w) 61 (.bool (decide (0 < ((foldR ((isort lessSel xs).take m)).length : Int))))),
            (det (Nw w) 62 (.bool (decide (0 < ((foldR ((isort lessSel xs).take m)).length : Int))))),
            (gdet (Nw w) 63 ((decide (0 < ((foldR ((isort lessSel xs).take m)).length : Int))) = true) u),
            (gdet (Nw w) 64 ((decide (0 < ((foldR ((isort lessSel xs).take m)).length : Int))) = true) (.int .i64 (((foldR ((isort lessSel xs).take m)).length : Int)))),
            (gdet (Nw w) 65 ((decide (0 < ((foldR ((isort lessSel xs).take m)).length : Int))) = true) (.int .i64 (((foldR ((isort lessSel xs).take m)).length : Int) - 1))),
            (gdet (Nw w) 66 ((decide (0 < ((foldR ((isort lessSel xs).take m)).length : Int))) = true) (.pointer (some ((ptrOf u).add ((((foldR ((isort lessSel xs).take m)).length : Int) - 1 : Int).toNat * 2))))),
            (gdet (Nw w) 67 ((decide (0 < ((foldR ((isort lessSel xs).take m)).length : Int))) = true) (.agg #[(.int .i64 ((nth (foldR ((isort lessSel xs).take m)) (((foldR ((isort lessSel xs).take m)).length : Int) - 1)).1)), (.int .i64 ((nth (foldR ((isort lessSel xs).take m)) (((foldR ((isort lessSel xs).take m)).length : Int) - 1)).2))])),
            (gdet (Nw w) 68 ((decide (0 < ((foldR ((isort lessSel xs).take m)).length : Int))) = true) (.agg #[(.int .i64 ((sspan (nth (foldR ((isort lessSel xs).take m)) (((foldR ((isort lessSel xs).take m)).length : Int) - 1))).1)), (.int .i64 ((sspan (nth (foldR ((isort lessSel xs).take m)) (((foldR ((isort lessSel xs).take m)).length : Int) - 1))).2))])),
            (gdet (Nw w) 69 ((decide (0 < ((foldR ((isort lessSel xs).take m)).length : Int))) = true) o),
            (gdet (Nw w) 70 ((decide (0 < ((foldR ((isort lessSel xs).take m)).length : Int))) = true) (.int .i64 ((m : Int)))),
            (gdet (Nw w) 71 ((decide (0 < ((foldR ((isort lessSel xs).take m)).length : Int))) = true) (.pointer (some ((ptrOf o).add (((m : Int) : Int).toNat * 2))))),
            (gdet (Nw w) 72 ((decide (0 < ((foldR ((isort lessSel xs).take m)).length : Int))) = true) (.agg #[(.int .i64 ((nth (isort lessSel xs) ((m : Int))).1)), (.int .i64 ((nth (isort lessSel xs) ((m : Int))).2))])),
            (gdet (Nw w) 73 ((decide (0 < ((foldR ((isort lessSel xs).take m)).length : Int))) = true) (.agg #[(.int .i64 ((sspan (nth (isort lessSel xs) ((m : Int)))).1)), (.int .i64 ((sspan (nth (isort lessSel xs) ((m : Int)))).2))])),
            (gdet (Nw w) 74 ((decide (0 < ((foldR ((isort lessSel xs).take m)).length : Int))) = true) (.bool (touchB (sspan (nth (foldR ((isort lessSel xs).take m)) (((foldR ((isort lessSel xs).take m)).length : Int) - 1))) (sspan (nth (isort lessSel xs) ((m : Int))))))),
            (det (Nw w) 75 (.bool ((decide (0 < ((foldR ((isort lessSel xs).take m)).length : Int))) && (touchB (sspan (nth (foldR ((isort lessSel xs).take m)) (((foldR ((isort lessSel xs).take m)).length : Int) - 1))) (sspan (nth (isort lessSel xs) ((m : Int))))))))])
      [(iown SpanE 33 (Nw w) o (isort lessSel xs)), (iown SpanE 33 (Nw w) u (foldR ((isort lessSel xs).take m)))] mixed st16 (by kernel_rfl) ⟨r0, r1, trivial⟩
      ⟨Ob.det rfl rfl rfl (fun _ a_ _ _ c => r_move rfl (c.eo e8 (by kernel_rfl))),
           Ob.det rfl rfl rfl (fun _ a_ _ _ c => r_gtr rfl (c.ev 0 rfl rfl) rfl),
           Ob.det rfl rfl rfl (fun _ a_ _ _ c => r_move rfl (c.ev 1 rfl rfl)),
           Ob.gdet rfl rfl rfl rfl (gi := 2) (tg := 62) rfl rfl Iff.rfl (fun _ a_ _ _ c hpc => r_move rfl (c.eo e6 (by kernel_rfl))),
           Ob.gdet rfl rfl rfl rfl (gi := 2) (tg := 62) rfl rfl Iff.rfl (fun _ a_ _ _ c hpc => r_move rfl (c.eo e8 (by kernel_rfl))),
           Ob.gdet rfl rfl rfl rfl (gi := 2) (tg := 62) rfl rfl Iff.rfl (fun _ a_ _ _ c hpc => r_sub rfl (c.eg 4 rfl rfl hpc) rfl (by have hq0 := hpc; (try simp only [Bool.and_eq_true, Bool.or_eq_true, decide_eq_true_eq, decide_eq_false_iff_not, Bool.not_eq_true', Bool.and_eq_false_iff, Bool.or_eq_false_iff, Bool.not_eq_false', Int.not_lt, Int.not_le, beq_iff_eq, selB] at hq0); omega)),
           Ob.gdet rfl rfl rfl rfl (gi := 2) (tg := 62) rfl rfl Iff.rfl (fun _ a_ _ _ c hpc => r_indexAddr rfl Try.underlying22 Try.sizeOf33 (c.eg 3 rfl rfl hpc) r1.isSl (c.eg 5 rfl rfl hpc) (by have hq0 := hpc; (try simp only [Bool.and_eq_true, Bool.or_eq_true, decide_eq_true_eq, decide_eq_false_iff_not, Bool.not_eq_true', Bool.and_eq_false_iff, Bool.or_eq_false_iff, Bool.not_eq_false', Int.not_lt, Int.not_le, beq_iff_eq, selB] at hq0); omega) (by have hq0 := hpc; (try simp only [Bool.and_eq_true, Bool.or_eq_true, decide_eq_true_eq, decide_eq_false_iff_not, Bool.not_eq_true', Bool.and_eq_false_iff, Bool.or_eq_false_iff, Bool.not_eq_false', Int.not_lt, Int.not_le, beq_iff_eq, selB] at hq0); omega)),
           Ob.gdet rfl rfl rfl rfl (gi := 2) (tg := 62) rfl rfl Iff.rfl (fun _ a_ _ _ c hpc => r_loadN (vs := [(.int .i64 ((nth (foldR ((isort lessSel xs).take m)) (((foldR ((isort lessSel xs).take m)).length : Int) - 1)).1)), (.int .i64 ((nth (foldR ((isort lessSel xs).take m)) (((foldR ((isort lessSel xs).take m)).length : Int) - 1)).2))]) rfl Try.isAgg33 Try.sizeOf33 (c.eg 6 rfl rfl hpc) rfl (fun _ _ hj => ((c.iown 1 rfl rfl (by kernel_rfl)).1.sl).elem (nth_some (by have hq0 := hpc; (try simp only [Bool.and_eq_true, Bool.or_eq_true, decide_eq_true_eq, decide_eq_false_iff_not, Bool.not_eq_true', Bool.and_eq_false_iff, Bool.or_eq_false_iff, Bool.not_eq_false', Int.not_lt, Int.not_le, beq_iff_eq, selB] at hq0); omega) (by have hq0 := hpc; (try simp only [Bool.and_eq_true, Bool.or_eq_true, decide_eq_true_eq, decide_eq_false_iff_not, Bool.not_eq_true', Bool.and_eq_false_iff, Bool.or_eq_false_iff, Bool.not_eq_false', Int.not_lt, Int.not_le, beq_iff_eq, selB] at hq0); omega)) hj)),
           Ob.gcall rfl rfl rfl rfl (gi := 2) (tg := 62) rfl rfl Iff.rfl (fun _ a_ _ _ c hpc => ⟨_, _, (e_call1 rfl rfl Try.call21 (c.eg 7 rfl rfl hpc)), refSelSpan_c (nth (foldR ((isort lessSel xs).take m)) (((foldR ((isort lessSel xs).take m)).length : Int) - 1)) _⟩),
           Ob.gdet rfl rfl rfl rfl (gi := 2) (tg := 62) rfl rfl Iff.rfl (fun _ a_ _ _ c hpc => r_move rfl (c.eo e3 (by kernel_rfl))),
           Ob.gdet rfl rfl rfl rfl (gi := 2) (tg := 62) rfl rfl Iff.rfl (fun _ a_ _ _ c hpc => r_move rfl (c.eo e7 (by kernel_rfl))),
           Ob.gdet rfl rfl rfl rfl (gi := 2) (tg := 62) rfl rfl Iff.rfl (fun _ a_ _ _ c hpc => r_indexAddr rfl Try.underlying22 Try.sizeOf33 (c.eg 9 rfl rfl hpc) r0.isSl (c.eg 10 rfl rfl hpc) (by have hq0 := hpc; (try simp only [Bool.and_eq_true, Bool.or_eq_true, decide_eq_true_eq, decide_eq_false_iff_not, Bool.not_eq_true', Bool.and_eq_false_iff, Bool.or_eq_false_iff, Bool.not_eq_false', Int.not_lt, Int.not_le, beq_iff_eq, selB] at hq0); omega) (by have hq0 := hpc; (try simp only [Bool.and_eq_true, Bool.or_eq_true, decide_eq_true_eq, decide_eq_false_iff_not, Bool.not_eq_true', Bool.and_eq_false_iff, Bool.or_eq_false_iff, Bool.not_eq_false', Int.not_lt, Int.not_le, beq_iff_eq, selB] at hq0); omega)),
           Ob.gdet rfl rfl rfl rfl (gi := 2) (tg := 62) rfl rfl Iff.rfl (fun _ a_ _ _ c hpc => r_loadN (vs := [(.int .i64 ((nth (isort lessSel xs) ((m : Int))).1)), (.int .i64 ((nth (isort lessSel xs) ((m : Int))).2))]) rfl Try.isAgg33 Try.sizeOf33 (c.eg 11 rfl rfl hpc) rfl (fun _ _ hj => ((c.iown 0 rfl rfl (by kernel_rfl)).1.sl).elem (nth_some (by have hq0 := hpc; (try simp only [Bool.and_eq_true, Bool.or_eq_true, decide_eq_true_eq, decide_eq_false_iff_not, Bool.not_eq_true', Bool.and_eq_false_iff, Bool.or_eq_false_iff, Bool.not_eq_false', Int.not_lt, Int.not_le, beq_iff_eq, selB] at hq0); omega) (by have hq0 := hpc; (try simp only [Bool.and_eq_true, Bool.or_eq_true, decide_eq_true_eq, decide_eq_false_iff_not, Bool.not_eq_true', Bool.and_eq_false_iff, Bool.or_eq_false_iff, Bool.not_eq_false', Int.not_lt, Int.not_le, beq_iff_eq, selB] at hq0); omega)) hj)),
           Ob.gcall rfl rfl rfl rfl (gi := 2) (tg := 62) rfl rfl Iff.rfl (fun _ a_ _ _ c hpc => ⟨_, _, (e_call1 rfl rfl Try.call21 (c.eg 12 rfl rfl hpc)), refSelSpan_c (nth (isort lessSel xs) ((m : Int))) _⟩),
           Ob.gcall rfl rfl rfl rfl (gi := 2) (tg := 62) rfl rfl Iff.rfl (fun _ a_ _ _ c hpc => ⟨_, _, (e_call2 rfl rfl Try.call31 (c.eg 8 rfl rfl hpc) (c.eg 13 rfl rfl hpc)), refTouch_c (sspan (nth (foldR ((isort lessSel xs).take m)) (((foldR ((isort lessSel xs).take m)).length : Int) - 1))) (sspan (nth (isort lessSel xs) ((m : Int)))) _⟩),
           Ob.det rfl rfl rfl (fun _ a_ _ _ c => r_and rfl (c.ev 2 rfl rfl) (fun h => (c.eg 14 rfl rfl h))),
       trivial⟩ ?_
    intro a17 w17 τ17 st17 f17
    replace e2 := f17.old e2 (by kernel_rfl)
    replace e3 := f17.old e3 (by kernel_rfl)
    replace e6 := f17.old e6 (by kernel_rfl)
    replace e7 := f17.old e7 (by kernel_rfl)
    replace e8 := f17.old e8 (by kernel_rfl)
    replace e55 := f17.old e55 (by kernel_rfl)
    have e75 : get a17 75 = (.bool ((decide (0 < ((foldR ((isort lessSel xs).take m)).length : Int))) && (touchB (sspan (nth (foldR ((isort lessSel xs).take m)) (((foldR ((isort lessSel xs).take m)).length : Int) - 1))) (sspan (nth (isort lessSel xs) ((m : Int))))))) := f17.v 15 rfl
    replace r0 : ownR SpanE 33 (isort lessSel xs) (τ17 0) o w17 := f17.iown 0 rfl rfl
    replace r1 : ownR SpanE 33 (foldR ((isort lessSel xs).take m)) (τ17 1) u w17 := f17.iown 1 rfl rfl
    clear f17
    show Code.wp _ _ _ a17 w17
    refine wp_cond_split (t := (decide (0 < ((foldR ((isort lessSel xs).take m)).length : Int))) && (touchB (sspan (nth (foldR ((isort lessSel xs).take m)) (((foldR ((isort lessSel xs).take m)).length : Int) - 1))) (sspan (nth (isort lessSel xs) ((m : Int)))))) e75 (fun hc4 => ?_) (fun hc4 => ?_)
    · have hd4 := hc4; try simp only [Bool.and_eq_true, Bool.or_eq_true, decide_eq_true_eq, decide_eq_false_iff_not, Bool.not_eq_true', Bool.and_eq_false_iff, Bool.or_eq_false_iff, Bool.not_eq_false', Int.not_lt, Int.not_le, beq_iff_eq, selB] at hd4
      refine wp_seq ?_
      refine region_St (bf := [0, 0, 2, 7, 15, 31, 0, 0, 192, 448, 1023, 0, 0, 8191, 16383]) (sp := [
          (det (Nw w) 76 u),
                (det (Nw w) 77 (.int .i64 (((foldR ((isort lessSel xs).take m)).length : Int)))),
                (det (Nw w) 78 (.int .i64 (((foldR ((isort lessSel xs).take m)).length : Int) - 1))),
                (det (Nw w) 79 (.pointer (some ((ptrOf u).add ((((foldR ((isort lessSel xs).take m)).length : Int) - 1 : Int).toNat * 2))))),
                (det (Nw w) 80 (.agg #[(.int .i64 ((nth (foldR ((isort lessSel xs).take m)) (((foldR ((isort lessSel xs).take m)).length : Int) - 1)).1)), (.int .i64 ((nth (foldR ((isort lessSel xs).take m)) (((foldR ((isort lessSel xs).take m)).length : Int) - 1)).2))])),
                (det (Nw w) 81 (.agg #[(.int .i64 ((sspan (nth (foldR ((isort lessSel xs).take m)) (((foldR ((isort lessSel xs).take m)).length : Int) - 1))).1)), (.int .i64 ((sspan (nth (foldR ((isort lessSel xs).take m)) (((foldR ((isort lessSel xs).take m)).length : Int) - 1))).2))])),
                (det (Nw w) 82 o),
                (det (Nw w) 83 (.int .i64 ((m : Int)))),
                (det (Nw w) 84 (.pointer (some ((ptrOf o).add (((m : Int) : Int).toNat * 2))))),
                (det (Nw w) 85 (.agg #[(.int .i64 ((nth (isort lessSel xs) ((m : Int))).1)), (.int .i64 ((nth (isort lessSel xs) ((m : Int))).2))])),
                (det (Nw w) 86 (.agg #[(.int .i64 ((sspan (nth (isort lessSel xs) ((m : Int)))).1)), (.int .i64 ((sspan (nth (isort lessSel xs) ((m : Int)))).2))])),
                (box 39 (Nw w) 2 9 [(.int .i64 (0)), (.int .i64 (0))]),
                (box 39 (Nw w) 3 10 [(.int .i64 (0)), (.int .i64 (0))]),
                (box 39 (Nw w) 2 9 [(.int .i64 ((sspan (nth (foldR ((isort lessSel xs).take m)) (((foldR ((isort lessSel xs).take m)).length : Int) - 1))).1)), (.int .i64 ((sspan (nth (foldR ((isort lessSel xs).take m)) (((foldR ((isort lessSel xs).take m)).length : Int) - 1))).2))]),
                (box 39 (Nw w) 3 10 [(.int .i64 ((sspan (nth (isort lessSel xs) ((m : Int)))).1)), (.int .i64 ((sspan (nth (isort lessSel xs) ((m : Int)))).2))])])
        [(iown SpanE 33 (Nw w) o (isort lessSel xs)), (iown SpanE 33 (Nw w) u (foldR ((isort lessSel xs).take m)))] mixed st17 (by kernel_rfl) ⟨r0, r1, trivial⟩
        ⟨Ob.det rfl rfl rfl (fun _ a_ _ _ c => r_move rfl (c.eo e6 (by kernel_rfl))),
               Ob.det rfl rfl rfl (fun _ a_ _ _ c => r_move rfl (c.eo e8 (by kernel_rfl))),
               Ob.det rfl rfl rfl (fun _ a_ _ _ c => r_sub rfl (c.ev 1 rfl rfl) rfl (by omega)),
               Ob.det rfl rfl rfl (fun _ a_ _ _ c => r_indexAddr rfl Try.underlying22 Try.sizeOf33 (c.ev 0 rfl rfl) r1.isSl (c.ev 2 rfl rfl) (by omega) (by omega)),
               Ob.det rfl rfl rfl (fun _ a_ _ _ c => r_loadN (vs := [(.int .i64 ((nth (foldR ((isort lessSel xs).take m)) (((foldR ((isort lessSel xs).take m)).length : Int) - 1)).1)), (.int .i64 ((nth (foldR ((isort lessSel xs).take m)) (((foldR ((isort lessSel xs).take m)).length : Int) - 1)).2))]) rfl Try.isAgg33 Try.sizeOf33 (c.ev 3 rfl rfl) rfl (fun _ _ hj => ((c.iown 1 rfl rfl (by kernel_rfl)).1.sl).elem (nth_some (by omega) (by omega)) hj)),
               Ob.call rfl rfl rfl (fun _ a_ _ _ c => ⟨_, _, (e_call1 rfl rfl Try.call21 (c.ev 4 rfl rfl)), refSelSpan_c (nth (foldR ((isort lessSel xs).take m)) (((foldR ((isort lessSel xs).take m)).length : Int) - 1)) _⟩),
               Ob.det rfl rfl rfl (fun _ a_ _ _ c => r_move rfl (c.eo e3 (by kernel_rfl))),
               Ob.det rfl rfl rfl (fun _ a_ _ _ c => r_move rfl (c.eo e7 (by kernel_rfl))),
               Ob.det rfl rfl rfl (fun _ a_ _ _ c => r_indexAddr rfl Try.underlying22 Try.sizeOf33 (c.ev 6 rfl rfl) r0.isSl (c.ev 7 rfl rfl) (by omega) (by omega)),
               Ob.det rfl rfl rfl (fun _ a_ _ _ c => r_loadN (vs := [(.int .i64 ((nth (isort lessSel xs) ((m : Int))).1)), (.int .i64 ((nth (isort lessSel xs) ((m : Int))).2))]) rfl Try.isAgg33 Try.sizeOf33 (c.ev 8 rfl rfl) rfl (fun _ _ hj => ((c.iown 0 rfl rfl (by kernel_rfl)).1.sl).elem (nth_some (by omega) (by omega)) hj)),
               Ob.call rfl rfl rfl (fun _ a_ _ _ c => ⟨_, _, (e_call1 rfl rfl Try.call21 (c.ev 9 rfl rfl)), refSelSpan_c (nth (isort lessSel xs) ((m : Int))) _⟩),
               Ob.alloc rfl rfl rfl rfl Try.zeroValue39 rfl,
               Ob.alloc rfl rfl rfl rfl Try.zeroValue39 rfl,
               Ob.storeBox (off := 0) (v := (.agg #[(.int .i64 ((sspan (nth (foldR ((isort lessSel xs).take m)) (((foldR ((isort lessSel xs).take m)).length : Int) - 1))).1)), (.int .i64 ((sspan (nth (foldR ((isort lessSel xs).take m)) (((foldR ((isort lessSel xs).take m)).length : Int) - 1))).2))])) rfl rfl rfl rfl Try.sizeOf39 (Nat.le_of_ble_eq_true rfl) (by simp [Value.cells, Value.oneCell']) rfl (fun _ _ _ _ c => ⟨c.rbox 11 rfl rfl (by kernel_rfl), (c.rbox 11 rfl rfl (by kernel_rfl)).ptr, (c.ev 5 rfl rfl)⟩),
               Ob.storeBox (off := 0) (v := (.agg #[(.int .i64 ((sspan (nth (isort lessSel xs) ((m : Int)))).1)), (.int .i64 ((sspan (nth (isort lessSel xs) ((m : Int)))).2))])) rfl rfl rfl rfl Try.sizeOf39 (Nat.le_of_ble_eq_true rfl) (by simp [Value.cells, Value.oneCell']) rfl (fun _ _ _ _ c => ⟨c.rbox 12 rfl rfl (by kernel_rfl), (c.rbox 12 rfl rfl (by kernel_rfl)).ptr, (c.ev 10 rfl rfl)⟩),
         trivial⟩ ?_
      intro a18 w18 τ18 st18 f18
      obtain ⟨b18x9, e9⟩ : ∃ b, get a18 9 = b := ⟨_, rfl⟩
      obtain ⟨b18x10, e10⟩ : ∃ b, get a18 10 = b := ⟨_, rfl⟩
      replace e2 := f18.old e2 (by kernel_rfl)
      replace e3 := f18.old e3 (by kernel_rfl)
      replace e6 := f18.old e6 (by kernel_rfl)
      replace e7 := f18.old e7 (by kernel_rfl)
      replace e8 := f18.old e8 (by kernel_rfl)
      replace e55 := f18.old e55 (by kernel_rfl)
      replace e75 := f18.old e75 (by kernel_rfl)
      replace r0 : ownR SpanE 33 (isort lessSel xs) (τ18 0) o w18 := f18.iown 0 rfl rfl
      replace r1 : ownR SpanE 33 (foldR ((isort lessSel xs).take m)) (τ18 1) u w18 := f18.iown 1 rfl rfl
      have r2 : boxR 39 [(.int .i64 ((sspan (nth (foldR ((isort lessSel xs).take m)) (((foldR ((isort lessSel xs).take m)).length : Int) - 1))).1)), (.int .i64 ((sspan (nth (foldR ((isort lessSel xs).take m)) (((foldR ((isort lessSel xs).take m)).length : Int) - 1))).2))] (τ18 2) b18x9 w18 := f18.rbox 13 rfl rfl e9
      have r3 : boxR 39 [(.int .i64 ((sspan (nth (isort lessSel xs) ((m : Int)))).1)), (.int .i64 ((sspan (nth (isort lessSel xs) ((m : Int)))).2))] (τ18 3) b18x10 w18 := f18.rbox 14 rfl rfl e10
      clear f18
      show Code.wp _ _ _ a18 w18
      refine region_St (bf := [0, 0, 2, 0, 8, 0, 32, 0, 128, 480, 1016, 0, 0, 4096, 14336, 30720, 63488, 0, 0, 262144, 917504, 1966080, 4063232, 8386560, 16777208, 33554431, 67108863]) (sp := [
          (det (Nw w) 87 u),
                (det (Nw w) 88 (.int .i64 (((foldR ((isort lessSel xs).take m)).length : Int)))),
                (det (Nw w) 89 (.int .i64 (((foldR ((isort lessSel xs).take m)).length : Int) - 1))),
                (det (Nw w) 90 (.pointer (some ((ptrOf b18x9).add 0)))),
                (det (Nw w) 91 (.int .i64 ((sspan (nth (foldR ((isort lessSel xs).take m)) (((foldR ((isort lessSel xs).take m)).length : Int) - 1))).1))),
                (det (Nw w) 92 (.pointer (some ((ptrOf b18x9).add 1)))),
                (det (Nw w) 93 (.int .i64 ((sspan (nth (foldR ((isort lessSel xs).take m)) (((foldR ((isort lessSel xs).take m)).length : Int) - 1))).2))),
                (det (Nw w) 94 (.pointer (some ((ptrOf b18x10).add 1)))),
                (det (Nw w) 95 (.int .i64 ((sspan (nth (isort lessSel xs) ((m : Int)))).2))),
                (det (Nw w) 96 (.int .i64 (max ((sspan (nth (foldR ((isort lessSel xs).take m)) (((foldR ((isort lessSel xs).take m)).length : Int) - 1))).2) ((sspan (nth (isort lessSel xs) ((m : Int)))).2)))),
                (det (Nw w) 97 (.agg #[(.int .i64 ((sspan (nth (foldR ((isort lessSel xs).take m)) (((foldR ((isort lessSel xs).take m)).length : Int) - 1))).1)), (.int .i64 (max ((sspan (nth (foldR ((isort lessSel xs).take m)) (((foldR ((isort lessSel xs).take m)).length : Int) - 1))).2) ((sspan (nth (isort lessSel xs) ((m : Int)))).2)))])),
                (det (Nw w) 98 u),
                (det (Nw w) 99 (.int .i64 (((foldR ((isort lessSel xs).take m)).length : Int)))),
                (det (Nw w) 100 (.int .i64 (((foldR ((isort lessSel xs).take m)).length : Int) - 1))),
                (det (Nw w) 101 (.pointer (some ((ptrOf u).add ((((foldR ((isort lessSel xs).take m)).length : Int) - 1 : Int).toNat * 2))))),
                (det (Nw w) 102 (.pointer (some (((ptrOf u).add ((((foldR ((isort lessSel xs).take m)).length : Int) - 1 : Int).toNat * 2)).add 1)))),
                (det (Nw w) 103 (.int .i64 ((nth (foldR ((isort lessSel xs).take m)) (((foldR ((isort lessSel xs).take m)).length : Int) - 1)).2))),
                (det (Nw w) 104 u),
                (det (Nw w) 105 (.int .i64 (((foldR ((isort lessSel xs).take m)).length : Int)))),
                (det (Nw w) 106 (.int .i64 (((foldR ((isort lessSel xs).take m)).length : Int) - 1))),
                (det (Nw w) 107 (.pointer (some ((ptrOf u).add ((((foldR ((isort lessSel xs).take m)).length : Int) - 1 : Int).toNat * 2))))),
                (det (Nw w) 108 (.pointer (some (((ptrOf u).add ((((foldR ((isort lessSel xs).take m)).length : Int) - 1 : Int).toNat * 2)).add 0)))),
                (det (Nw w) 109 (.int .i64 ((nth (foldR ((isort lessSel xs).take m)) (((foldR ((isort lessSel xs).take m)).length : Int) - 1)).1))),
                (det (Nw w) 110 (.bool (decide ((nth (foldR ((isort lessSel xs).take m)) (((foldR ((isort lessSel xs).take m)).length : Int) - 1)).2 < (nth (foldR ((isort lessSel xs).take m)) (((foldR ((isort lessSel xs).take m)).length : Int) - 1)).1)))),
                (det (Nw w) 111 (.agg #[(.int .i64 ((ofF ((sspan (nth (foldR ((isort lessSel xs).take m)) (((foldR ((isort lessSel xs).take m)).length : Int) - 1))).1, max ((sspan (nth (foldR ((isort lessSel xs).take m)) (((foldR ((isort lessSel xs).take m)).length : Int) - 1))).2) ((sspan (nth (isort lessSel xs) ((m : Int)))).2)) (decide ((nth (foldR ((isort lessSel xs).take m)) (((foldR ((isort lessSel xs).take m)).length : Int) - 1)).2 < (nth (foldR ((isort lessSel xs).take m)) (((foldR ((isort lessSel xs).take m)).length : Int) - 1)).1))).1)), (.int .i64 ((ofF ((sspan (nth (foldR ((isort lessSel xs).take m)) (((foldR ((isort lessSel xs).take m)).length : Int) - 1))).1, max ((sspan (nth (foldR ((isort lessSel xs).take m)) (((foldR ((isort lessSel xs).take m)).length : Int) - 1))).2) ((sspan (nth (isort lessSel xs) ((m : Int)))).2)) (decide ((nth (foldR ((isort lessSel xs).take m)) (((foldR ((isort lessSel xs).take m)).length : Int) - 1)).2 < (nth (foldR ((isort lessSel xs).take m)) (((foldR ((isort lessSel xs).take m)).length : Int) - 1)).1))).2))])),
                (det (Nw w) 112 (.pointer (some ((ptrOf u).add ((((foldR ((isort lessSel xs).take m)).length : Int) - 1 : Int).toNat * 2))))),
                (own SpanE 33 (Nw w) 1 6 ((foldR ((isort lessSel xs).take m)).set (((foldR ((isort lessSel xs).take m)).length : Int) - 1).toNat (ofF ((sspan (nth (foldR ((isort lessSel xs).take m)) (((foldR ((isort lessSel xs).take m)).length : Int) - 1))).1, max ((sspan (nth (foldR ((isort lessSel xs).take m)) (((foldR ((isort lessSel xs).take m)).length : Int) - 1))).2) ((sspan (nth (isort lessSel xs) ((m : Int)))).2)) (decide ((nth (foldR ((isort lessSel xs).take m)) (((foldR ((isort lessSel xs).take m)).length : Int) - 1)).2 < (nth (foldR ((isort lessSel xs).take m)) (((foldR ((isort lessSel xs).take m)).length : Int) - 1)).1)))))])
        [(iown SpanE 33 (Nw w) o (isort lessSel xs)), (iown SpanE 33 (Nw w) u (foldR ((isort lessSel xs).take m))), (ibox 39 (Nw w) b18x9 [(.int .i64 ((sspan (nth (foldR ((isort lessSel xs).take m)) (((foldR ((isort lessSel xs).take m)).length : Int) - 1))).1)), (.int .i64 ((sspan (nth (foldR ((isort lessSel xs).take m)) (((foldR ((isort lessSel xs).take m)).length : Int) - 1))).2))]), (ibox 39 (Nw w) b18x10 [(.int .i64 ((sspan (nth (isort lessSel xs) ((m : Int)))).1)), (.int .i64 ((sspan (nth (isort lessSel xs) ((m : Int)))).2))])] mixed st18 (by kernel_rfl) ⟨r0, r1, r2, r3, trivial⟩
        ⟨Ob.det rfl rfl rfl (fun _ a_ _ _ c => r_move rfl (c.eo e6 (by kernel_rfl))),
               Ob.det rfl rfl rfl (fun _ a_ _ _ c => r_move rfl (c.eo e8 (by kernel_rfl))),
               Ob.det rfl rfl rfl (fun _ a_ _ _ c => r_sub rfl (c.ev 1 rfl rfl) rfl (by omega)),
               Ob.det rfl rfl rfl (fun _ a_ _ _ c => r_fieldAddr rfl Try.underlying39 rfl rfl Try.sizeOf3 ((c.eo e9 (by kernel_rfl)).trans r2.ptr)),
               Ob.det rfl rfl rfl (fun _ a_ _ _ c => r_load1 rfl Try.isAgg3 (c.ev 3 rfl rfl) ((c.ibox 2 rfl rfl (by kernel_rfl)).cell (j := 0) rfl)),
               Ob.det rfl rfl rfl (fun _ a_ _ _ c => r_fieldAddr rfl Try.underlying39 rfl rfl Try.sizeOf3 ((c.eo e9 (by kernel_rfl)).trans r2.ptr)),
               Ob.det rfl rfl rfl (fun _ a_ _ _ c => r_load1 rfl Try.isAgg3 (c.ev 5 rfl rfl) ((c.ibox 2 rfl rfl (by kernel_rfl)).cell (j := 1) rfl)),
               Ob.det rfl rfl rfl (fun _ a_ _ _ c => r_fieldAddr rfl Try.underlying39 rfl rfl Try.sizeOf3 ((c.eo e10 (by kernel_rfl)).trans r3.ptr)),
               Ob.det rfl rfl rfl (fun _ a_ _ _ c => r_load1 rfl Try.isAgg3 (c.ev 7 rfl rfl) ((c.ibox 3 rfl rfl (by kernel_rfl)).cell (j := 1) rfl)),
               Ob.det rfl rfl rfl (fun _ a_ _ _ c => r_max rfl (c.ev 6 rfl rfl) (c.ev 8 rfl rfl)),
               Ob.det rfl rfl rfl (fun _ a_ _ _ c => r_build (cells := #[(.int .i64 ((sspan (nth (foldR ((isort lessSel xs).take m)) (((foldR ((isort lessSel xs).take m)).length : Int) - 1))).1)), (.int .i64 (max ((sspan (nth (foldR ((isort lessSel xs).take m)) (((foldR ((isort lessSel xs).take m)).length : Int) - 1))).2) ((sspan (nth (isort lessSel xs) ((m : Int)))).2)))]) rfl Try.underlying39 Try.zeroValue39 (pl := #[(0, 1), (1, 1)]) (fun w_ => by simp [Try.sizeOf3]) (by simp only [List.map_toArray, List.map_cons, List.map_nil, (show a_.eval (.tmp 91) = (.int .i64 ((sspan (nth (foldR ((isort lessSel xs).take m)) (((foldR ((isort lessSel xs).take m)).length : Int) - 1))).1)) from (c.ev 4 rfl rfl)), (show a_.eval (.tmp 96) = (.int .i64 (max ((sspan (nth (foldR ((isort lessSel xs).take m)) (((foldR ((isort lessSel xs).take m)).length : Int) - 1))).2) ((sspan (nth (isort lessSel xs) ((m : Int)))).2))) from (c.ev 9 rfl rfl))]; rfl)),
               Ob.det rfl rfl rfl (fun _ a_ _ _ c => r_move rfl (c.eo e6 (by kernel_rfl))),
               Ob.det rfl rfl rfl (fun _ a_ _ _ c => r_move rfl (c.eo e8 (by kernel_rfl))),
               Ob.det rfl rfl rfl (fun _ a_ _ _ c => r_sub rfl (c.ev 12 rfl rfl) rfl (by omega)),
               Ob.det rfl rfl rfl (fun _ a_ _ _ c => r_indexAddr rfl Try.underlying22 Try.sizeOf33 (c.ev 11 rfl rfl) r1.isSl (c.ev 13 rfl rfl) (by omega) (by omega)),
               Ob.det rfl rfl rfl (fun _ a_ _ _ c => r_fieldAddr rfl Try.underlying33 rfl rfl Try.sizeOf3 (c.ev 14 rfl rfl)),
               Ob.det rfl rfl rfl (fun _ a_ _ _ c => r_load1 rfl Try.isAgg3 (c.ev 15 rfl rfl) (((c.iown 1 rfl rfl (by kernel_rfl)).1.sl).elem (j := 1) (nth_some (by omega) (by omega)) rfl)),
               Ob.det rfl rfl rfl (fun _ a_ _ _ c => r_move rfl (c.eo e6 (by kernel_rfl))),
               Ob.det rfl rfl rfl (fun _ a_ _ _ c => r_move rfl (c.eo e8 (by kernel_rfl))),
               Ob.det rfl rfl rfl (fun _ a_ _ _ c => r_sub rfl (c.ev 18 rfl rfl) rfl (by omega)),
               Ob.det rfl rfl rfl (fun _ a_ _ _ c => r_indexAddr rfl Try.underlying22 Try.sizeOf33 (c.ev 17 rfl rfl) r1.isSl (c.ev 19 rfl rfl) (by omega) (by omega)),
               Ob.det rfl rfl rfl (fun _ a_ _ _ c => r_fieldAddr rfl Try.underlying33 rfl rfl Try.sizeOf3 (c.ev 20 rfl rfl)),
               Ob.det rfl rfl rfl (fun _ a_ _ _ c => r_load1 rfl Try.isAgg3 (c.ev 21 rfl rfl) (((c.iown 1 rfl rfl (by kernel_rfl)).1.sl).elem (j := 0) (nth_some (by omega) (by omega)) rfl)),
               Ob.det rfl rfl rfl (fun _ a_ _ _ c => r_lss rfl (c.ev 16 rfl rfl) (c.ev 22 rfl rfl)),
               Ob.call rfl rfl rfl (fun _ a_ _ _ c => ⟨_, _, (e_call2 rfl rfl Try.call32 (c.ev 10 rfl rfl) (c.ev 23 rfl rfl)), of_c ((sspan (nth (foldR ((isort lessSel xs).take m)) (((foldR ((isort lessSel xs).take m)).length : Int) - 1))).1, max ((sspan (nth (foldR ((isort lessSel xs).take m)) (((foldR ((isort lessSel xs).take m)).length : Int) - 1))).2) ((sspan (nth (isort lessSel xs) ((m : Int)))).2)) (decide ((nth (foldR ((isort lessSel xs).take m)) (((foldR ((isort lessSel xs).take m)).length : Int) - 1)).2 < (nth (foldR ((isort lessSel xs).take m)) (((foldR ((isort lessSel xs).take m)).length : Int) - 1)).1)) _⟩),
               Ob.det rfl rfl rfl (fun _ a_ _ _ c => r_indexAddr rfl Try.underlying22 Try.sizeOf33 (c.ev 0 rfl rfl) r1.isSl (c.ev 2 rfl rfl) (by omega) (by omega)),
               Ob.storeElem (E := SpanE) (i := (((foldR ((isort lessSel xs).take m)).length : Int) - 1).toNat) (off := 0) (u := (.agg #[(.int .i64 ((ofF ((sspan (nth (foldR ((isort lessSel xs).take m)) (((foldR ((isort lessSel xs).take m)).length : Int) - 1))).1, max ((sspan (nth (foldR ((isort lessSel xs).take m)) (((foldR ((isort lessSel xs).take m)).length : Int) - 1))).2) ((sspan (nth (isort lessSel xs) ((m : Int)))).2)) (decide ((nth (foldR ((isort lessSel xs).take m)) (((foldR ((isort lessSel xs).take m)).length : Int) - 1)).2 < (nth (foldR ((isort lessSel xs).take m)) (((foldR ((isort lessSel xs).take m)).length : Int) - 1)).1))).1)), (.int .i64 ((ofF ((sspan (nth (foldR ((isort lessSel xs).take m)) (((foldR ((isort lessSel xs).take m)).length : Int) - 1))).1, max ((sspan (nth (foldR ((isort lessSel xs).take m)) (((foldR ((isort lessSel xs).take m)).length : Int) - 1))).2) ((sspan (nth (isort lessSel xs) ((m : Int)))).2)) (decide ((nth (foldR ((isort lessSel xs).take m)) (((foldR ((isort lessSel xs).take m)).length : Int) - 1)).2 < (nth (foldR ((isort lessSel xs).take m)) (((foldR ((isort lessSel xs).take m)).length : Int) - 1)).1))).2))])) (x := nth (foldR ((isort lessSel xs).take m)) (((foldR ((isort lessSel xs).take m)).length : Int) - 1)) (x' := (ofF ((sspan (nth (foldR ((isort lessSel xs).take m)) (((foldR ((isort lessSel xs).take m)).length : Int) - 1))).1, max ((sspan (nth (foldR ((isort lessSel xs).take m)) (((foldR ((isort lessSel xs).take m)).length : Int) - 1))).2) ((sspan (nth (isort lessSel xs) ((m : Int)))).2)) (decide ((nth (foldR ((isort lessSel xs).take m)) (((foldR ((isort lessSel xs).take m)).length : Int) - 1)).2 < (nth (foldR ((isort lessSel xs).take m)) (((foldR ((isort lessSel xs).take m)).length : Int) - 1)).1)))) rfl rfl rfl rfl Try.sizeOf33 (nth_some (by omega) (by (try simp only [List.length_set]); omega)) (Nat.le_of_ble_eq_true rfl) (by simp [Value.cells, Value.oneCell']) rfl (fun _ a_ _ _ c => ⟨by rw [(show get _ 6 = u from c.old e6 (by kernel_rfl))]; exact c.iown 1 rfl rfl (by kernel_rfl), (by rw [(c.ev 25 rfl rfl), (show get _ 6 = u from c.old e6 (by kernel_rfl))]; rfl), (c.ev 24 rfl rfl)⟩),
         trivial⟩ ?_
      intro a19 w19 τ19 st19 f19
      replace e2 := f19.old e2 (by kernel_rfl)
      replace e3 := f19.old e3 (by kernel_rfl)
      replace e6 := f19.old e6 (by kernel_rfl)
      replace e7 := f19.old e7 (by kernel_rfl)
      replace e8 := f19.old e8 (by kernel_rfl)
      replace e9 := f19.old e9 (by kernel_rfl)
      replace e10 := f19.old e10 (by kernel_rfl)
      replace e55 := f19.old e55 (by kernel_rfl)
      replace e75 := f19.old e75 (by kernel_rfl)
      replace r0 : ownR SpanE 33 (isort lessSel xs) (τ19 0) o w19 := f19.iown 0 rfl rfl
      have r1 : ownR SpanE 33 ((foldR ((isort lessSel xs).take m)).set (((foldR ((isort lessSel xs).take m)).length : Int) - 1).toNat (ofF ((sspan (nth (foldR ((isort lessSel xs).take m)) (((foldR ((isort lessSel xs).take m)).length : Int) - 1))).1, max ((sspan (nth (foldR ((isort lessSel xs).take m)) (((foldR ((isort lessSel xs).take m)).length : Int) - 1))).2) ((sspan (nth (isort lessSel xs) ((m : Int)))).2)) (decide ((nth (foldR ((isort lessSel xs).take m)) (((foldR ((isort lessSel xs).take m)).length : Int) - 1)).2 < (nth (foldR ((isort lessSel xs).take m)) (((foldR ((isort lessSel xs).take m)).length : Int) - 1)).1)))) (τ19 1) u w19 := f19.rown 26 rfl rfl e6
      replace r2 : boxR 39 [(.int .i64 ((sspan (nth (foldR ((isort lessSel xs).take m)) (((foldR ((isort lessSel xs).take m)).length : Int) - 1))).1)), (.int .i64 ((sspan (nth (foldR ((isort lessSel xs).take m)) (((foldR ((isort lessSel xs).take m)).length : Int) - 1))).2))] (τ19 2) b18x9 w19 := f19.ibox 2 rfl rfl
      replace r3 : boxR 39 [(.int .i64 ((sspan (nth (isort lessSel xs) ((m : Int)))).1)), (.int .i64 ((sspan (nth (isort lessSel xs) ((m : Int)))).2))] (τ19 3) b18x10 w19 := f19.ibox 3 rfl rfl
      clear f19
      show _
      show Code.wp _ _ _ a19 w19
      refine region_St (bf := [0, 1, 3]) (sp := [
          (det (Nw w) 56 (.int .i64 ((m : Int)))),
                (det (Nw w) 57 (.int .i64 ((m : Int) + 1))),
                (det (Nw w) 7 (.int .i64 ((m : Int) + 1)))])
        [(iown SpanE 33 (Nw w) o (isort lessSel xs)), (iown SpanE 33 (Nw w) u ((foldR ((isort lessSel xs).take m)).set (((foldR ((isort lessSel xs).take m)).length : Int) - 1).toNat (ofF ((sspan (nth (foldR ((isort lessSel xs).take m)) (((foldR ((isort lessSel xs).take m)).length : Int) - 1))).1, max ((sspan (nth (foldR ((isort lessSel xs).take m)) (((foldR ((isort lessSel xs).take m)).length : Int) - 1))).2) ((sspan (nth (isort lessSel xs) ((m : Int)))).2)) (decide ((nth (foldR ((isort lessSel xs).take m)) (((foldR ((isort lessSel xs).take m)).length : Int) - 1)).2 < (nth (foldR ((isort lessSel xs).take m)) (((foldR ((isort lessSel xs).take m)).length : Int) - 1)).1))))), (ibox 39 (Nw w) b18x9 [(.int .i64 ((sspan (nth (foldR ((isort lessSel xs).take m)) (((foldR ((isort lessSel xs).take m)).length : Int) - 1))).1)), (.int .i64 ((sspan (nth (foldR ((isort lessSel xs).take m)) (((foldR ((isort lessSel xs).take m)).length : Int) - 1))).2))]), (ibox 39 (Nw w) b18x10 [(.int .i64 ((sspan (nth (isort lessSel xs) ((m : Int)))).1)), (.int .i64 ((sspan (nth (isort lessSel xs) ((m : Int)))).2))])] mixed st19 (by kernel_rfl) ⟨r0, r1, r2, r3, trivial⟩
        ⟨Ob.det rfl rfl rfl (fun _ a_ _ _ c => r_move rfl (c.eo e7 (by kernel_rfl))),
               Ob.det rfl rfl rfl (fun _ a_ _ _ c => r_add rfl (c.ev 0 rfl rfl) rfl (by omega)),
               Ob.det rfl rfl rfl (fun _ a_ _ _ c => r_assign rfl (c.ev 1 rfl rfl)),
         trivial⟩ ?_
      intro a20 w20 τ20 st20 f20
      replace e2 := f20.old e2 (by kernel_rfl)
      replace e3 := f20.old e3 (by kernel_rfl)
      replace e6 := f20.old e6 (by kernel_rfl)
      have e7 : get a20 7 = (.int .i64 ((m : Int) + 1)) := f20.v 2 rfl
      replace e8 := f20.old e8 (by kernel_rfl)
      replace e9 := f20.old e9 (by kernel_rfl)
      replace e10 := f20.old e10 (by kernel_rfl)
      replace e55 := f20.old e55 (by kernel_rfl)
      replace e75 := f20.old e75 (by kernel_rfl)
      replace r0 : ownR SpanE 33 (isort lessSel xs) (τ20 0) o w20 := f20.iown 0 rfl rfl
      replace r1 : ownR SpanE 33 ((foldR ((isort lessSel xs).take m)).set (((foldR ((isort lessSel xs).take m)).length : Int) - 1).toNat (ofF ((sspan (nth (foldR ((isort lessSel xs).take m)) (((foldR ((isort lessSel xs).take m)).length : Int) - 1))).1, max ((sspan (nth (foldR ((isort lessSel xs).take m)) (((foldR ((isort lessSel xs).take m)).length : Int) - 1))).2) ((sspan (nth (isort lessSel xs) ((m : Int)))).2)) (decide ((nth (foldR ((isort lessSel xs).take m)) (((foldR ((isort lessSel xs).take m)).length : Int) - 1)).2 < (nth (foldR ((isort lessSel xs).take m)) (((foldR ((isort lessSel xs).take m)).length : Int) - 1)).1)))) (τ20 1) u w20 := f20.iown 1 rfl rfl
      replace r2 : boxR 39 [(.int .i64 ((sspan (nth (foldR ((isort lessSel xs).take m)) (((foldR ((isort lessSel xs).take m)).length : Int) - 1))).1)), (.int .i64 ((sspan (nth (foldR ((isort lessSel xs).take m)) (((foldR ((isort lessSel xs).take m)).length : Int) - 1))).2))] (τ20 2) b18x9 w20 := f20.ibox 2 rfl rfl
      replace r3 : boxR 39 [(.int .i64 ((sspan (nth (isort lessSel xs) ((m : Int)))).1)), (.int .i64 ((sspan (nth (isort lessSel xs) ((m : Int)))).2))] (τ20 3) b18x10 w20 := f20.ibox 3 rfl rfl
      clear f20
      refine ⟨⟨m + 1, u, τ20, ?_, st20, e6, (e7.trans (int_eq (by omega))), e2, e3, ?_, r0⟩, ?_⟩
      · omega
      · exact r1.cast (by first | exact foldR_hit (by omega) (by assumption) | exact foldR_miss (by omega) (by assumption))
      · simp only [m7, e7, intOf]; omega
    have hd4 := hc4; try simp only [Bool.and_eq_true, Bool.or_eq_true, decide_eq_true_eq, decide_eq_false_iff_not, Bool.not_eq_true', Bool.and_eq_false_iff, Bool.or_eq_false_iff, Bool.not_eq_false', Int.not_lt, Int.not_le, beq_iff_eq, selB] at hd4
    refine region_St (bf := [0, 0, 0, 6, 14, 30, 63, 127]) (sp := [
        (det (Nw w) 113 u),
            (det (Nw w) 114 o),
            (det (Nw w) 115 (.int .i64 ((m : Int)))),
            (det (Nw w) 116 (.pointer (some ((ptrOf o).add (((m : Int) : Int).toNat * 2))))),
            (det (Nw w) 117 (.agg #[(.int .i64 ((nth (isort lessSel xs) ((m : Int))).1)), (.int .i64 ((nth (isort lessSel xs) ((m : Int))).2))])),
            (own SpanE 33 (Nw w) 2 118 ([(nth (isort lessSel xs) ((m : Int)))])),
            (own SpanE 33 (Nw w) 1 119 ((foldR ((isort lessSel xs).take m)) ++ ([(nth (isort lessSel xs) ((m : Int)))]))),
            (own SpanE 33 (Nw w) 1 6 ((foldR ((isort lessSel xs).take m)) ++ ([(nth (isort lessSel xs) ((m : Int)))])))])
      [(iown SpanE 33 (Nw w) o (isort lessSel xs)), (iown SpanE 33 (Nw w) u (foldR ((isort lessSel xs).take m)))] mixed st17 (by kernel_rfl) ⟨r0, r1, trivial⟩
      ⟨Ob.det rfl rfl rfl (fun _ a_ _ _ c => r_move rfl (c.eo e6 (by kernel_rfl))),
           Ob.det rfl rfl rfl (fun _ a_ _ _ c => r_move rfl (c.eo e3 (by kernel_rfl))),
           Ob.det rfl rfl rfl (fun _ a_ _ _ c => r_move rfl (c.eo e7 (by kernel_rfl))),
           Ob.det rfl rfl rfl (fun _ a_ _ _ c => r_indexAddr rfl Try.underlying22 Try.sizeOf33 (c.ev 1 rfl rfl) r0.isSl (c.ev 2 rfl rfl) (by omega) (by omega)),
           Ob.det rfl rfl rfl (fun _ a_ _ _ c => r_loadN (vs := [(.int .i64 ((nth (isort lessSel xs) ((m : Int))).1)), (.int .i64 ((nth (isort lessSel xs) ((m : Int))).2))]) rfl Try.isAgg33 Try.sizeOf33 (c.ev 3 rfl rfl) rfl (fun _ _ hj => ((c.iown 0 rfl rfl (by kernel_rfl)).1.sl).elem (nth_some (by omega) (by omega)) hj)),
           Ob.buildSlice (cells := #[(.int .i64 ((nth (isort lessSel xs) ((m : Int))).1)), (.int .i64 ((nth (isort lessSel xs) ((m : Int))).2))]) rfl rfl rfl rfl Try.underlying22 Try.sizeOf33 Try.zeroValue33 rfl (by decide) (by decide) (fun _ a_ _ _ c => by simp only [List.map_toArray, List.map_cons, List.map_nil, (show a_.eval (.tmp 117) = (.agg #[(.int .i64 ((nth (isort lessSel xs) ((m : Int))).1)), (.int .i64 ((nth (isort lessSel xs) ((m : Int))).2))]) from (c.ev 4 rfl rfl))]; kernel_rfl) rfl,
           Ob.append (t0 := 6) rfl rfl rfl rfl Try.underlying22 (i := Try.t33) rfl rfl rfl rfl (by simp only [maxLen]; (try simp); omega) (by show _ * 16 ≤ _; (try simp); omega) (fun _ _ _ _ c => ⟨by rw [(show get _ 6 = u from c.old e6 (by kernel_rfl))]; exact c.iown 1 rfl rfl (by kernel_rfl), (c.ev 0 rfl rfl).trans (show u = get _ 6 from (c.old e6 (by kernel_rfl)).symm), ⟨_, rfl, (c.rown 5 rfl rfl (by kernel_rfl)).1.sl⟩⟩),
           Ob.moveT (t0 := 119) rfl rfl rfl rfl rfl (.inr rfl) (fun _ _ _ _ c => ⟨c.rown 6 rfl rfl (by kernel_rfl), rfl⟩),
       trivial⟩ ?_
    intro a21 w21 τ21 st21 f21
    obtain ⟨b21x118, e118⟩ : ∃ b, get a21 118 = b := ⟨_, rfl⟩
    obtain ⟨b21x6, e6⟩ : ∃ b, get a21 6 = b := ⟨_, rfl⟩
    replace e2 := f21.old e2 (by kernel_rfl)
    replace e3 := f21.old e3 (by kernel_rfl)
    replace e7 := f21.old e7 (by kernel_rfl)
    replace e8 := f21.old e8 (by kernel_rfl)
    replace e55 := f21.old e55 (by kernel_rfl)
    replace e75 := f21.old e75 (by kernel_rfl)
    replace r0 : ownR SpanE 33 (isort lessSel xs) (τ21 0) o w21 := f21.iown 0 rfl rfl
    have r1 : ownR SpanE 33 ((foldR ((isort lessSel xs).take m)) ++ ([(nth (isort lessSel xs) ((m : Int)))])) (τ21 1) b21x6 w21 := f21.rown 7 rfl rfl e6
    have r2 : ownR SpanE 33 ([(nth (isort lessSel xs) ((m : Int)))]) (τ21 2) b21x118 w21 := f21.rown 5 rfl rfl e118
    clear f21
    show _
    show Code.wp _ _ _ a21 w21
    refine region_St (bf := [0, 1, 3]) (sp := [
        (det (Nw w) 56 (.int .i64 ((m : Int)))),
            (det (Nw w) 57 (.int .i64 ((m : Int) + 1))),
            (det (Nw w) 7 (.int .i64 ((m : Int) + 1)))])
      [(iown SpanE 33 (Nw w) o (isort lessSel xs)), (iown SpanE 33 (Nw w) b21x6 ((foldR ((isort lessSel xs).take m)) ++ ([(nth (isort lessSel xs) ((m : Int)))]))), (iown SpanE 33 (Nw w) b21x118 ([(nth (isort lessSel xs) ((m : Int)))]))] mixed st21 (by kernel_rfl) ⟨r0, r1, r2, trivial⟩
      ⟨Ob.det rfl rfl rfl (fun _ a_ _ _ c => r_move rfl (c.eo e7 (by kernel_rfl))),
           Ob.det rfl rfl rfl (fun _ a_ _ _ c => r_add rfl (c.ev 0 rfl rfl) rfl (by omega)),
           Ob.det rfl rfl rfl (fun _ a_ _ _ c => r_assign rfl (c.ev 1 rfl rfl)),
       trivial⟩ ?_
    intro a22 w22 τ22 st22 f22
    replace e2 := f22.old e2 (by kernel_rfl)
    replace e3 := f22.old e3 (by kernel_rfl)
    replace e6 := f22.old e6 (by kernel_rfl)
    have e7 : get a22 7 = (.int .i64 ((m : Int) + 1)) := f22.v 2 rfl
    replace e8 := f22.old e8 (by kernel_rfl)
    replace e55 := f22.old e55 (by kernel_rfl)
    replace e75 := f22.old e75 (by kernel_rfl)
    replace r0 : ownR SpanE 33 (isort lessSel xs) (τ22 0) o w22 := f22.iown 0 rfl rfl
    replace r1 : ownR SpanE 33 ((foldR ((isort lessSel xs).take m)) ++ ([(nth (isort lessSel xs) ((m : Int)))])) (τ22 1) b21x6 w22 := f22.iown 1 rfl rfl
    replace r2 : ownR SpanE 33 ([(nth (isort lessSel xs) ((m : Int)))]) (τ22 2) b21x118 w22 := f22.iown 2 rfl rfl
    clear f22
    refine ⟨⟨m + 1, b21x6, τ22, ?_, st22, e6, (e7.trans (int_eq (by omega))), e2, e3, ?_, r0⟩, ?_⟩
    · omega
    · exact r1.cast (by first | exact foldR_hit (by omega) (by assumption) | exact foldR_miss (by omega) (by assumption))
    · simp only [m7, e7, intOf]; omega
  try simp only [Bool.and_eq_true, Bool.or_eq_true, decide_eq_true_eq, decide_eq_false_iff_not, Bool.not_eq_true', Bool.and_eq_false_iff, Bool.or_eq_false_iff, Bool.not_eq_false', Int.not_lt, Int.not_le, beq_iff_eq, selB] at hc3
  refine wp_exit ?_
  repeat (with_reducible refine then_exit ?_)
  refine exit_here ?_
  show Code.wp _ _ _ a15 w15
  refine wp_seq ?_
  refine region_St (bf := [0, 1]) (sp := [
      (det (Nw w) 120 u),
        (det (Nw w) 2 u)])
    [(iown SpanE 33 (Nw w) o (isort lessSel xs)), (iown SpanE 33 (Nw w) u (foldR ((isort lessSel xs).take m)))] mixed st15 (by kernel_rfl) ⟨r0, r1, trivial⟩
    ⟨Ob.det rfl rfl rfl (fun _ a_ _ _ c => r_move rfl (c.eo e6 (by kernel_rfl))),
       Ob.det rfl rfl rfl (fun _ a_ _ _ c => r_assign rfl (c.ev 0 rfl rfl)),
     trivial⟩ ?_
  intro a23 w23 τ23 st23 f23
  have e2 : get a23 2 = u := f23.v 1 rfl
  replace r1 : ownR SpanE 33 (foldR ((isort lessSel xs).take m)) (τ23 1) u w23 := f23.iown 1 rfl rfl
  clear f23
  show Code.wp _ _ _ a23 w23
  refine wp_ret ?_
  repeat (first | with_reducible refine then_ret ?_ | with_reducible refine block_ret ?_)
  refine ret1 (fn := Try.f22) rfl st23.defers e2 ?_
  replace r1 := r1.cast (show mergeF xs = _ from by rw [mergeF, List.take_of_length_le (l := isort lessSel xs) (by omega)])
  exact ⟨_, rfl, st23.ext0, r1.1, fun g_ h_ => (st23.bnd _ g_ (r1.2 g_ h_)).1⟩

set_option maxRecDepth 100000 in
theorem refNorm_c (n : Int) (v : Value) (xs : List (Int × Int)) (w : World) (hS : SlT SpanE w v xs) : Calls Try.prog 11 #[(.int .i64 (n)), v] w (fun e w' => ∃ v', e = .returned (.tuple #[v', .int .i64 (normE n xs)]) ∧ Ext none' w w' ∧ NewT SpanE 33 w w' v' (normF n xs)) := by
  refine enter (n := 29) Try.func11 rfl rfl (Nat.le_of_ble_eq_true rfl) ?_
  intro a0 τ0 ha st0
  have e0 : get a0 0 = (.int .i64 (n)) := ha 0 _ rfl
  have e1 : get a0 1 = v := ha 1 _ rfl
  clear ha
  have hle := hS.le
  refine wp_seq ?_
  refine region_St (bf := [0, 1]) (sp := [
      (det (Nw w) 4 (.slice none 0 0)),
        (det (Nw w) 5 (.int .i64 (0)))])
    [] mixed st0 (by kernel_rfl) trivial
    ⟨Ob.det rfl rfl rfl (fun _ a_ _ _ c => r_assign rfl rfl),
       Ob.det rfl rfl rfl (fun _ a_ _ _ c => r_assign rfl rfl),
     trivial⟩ ?_
  intro a1 w1 τ1 st1 f1
  replace e0 := f1.old e0 (by kernel_rfl)
  replace e1 := f1.old e1 (by kernel_rfl)
  have e4 : get a1 4 = (.slice none 0 0) := f1.v 0 rfl
  have e5 : get a1 5 = (.int .i64 (0)) := f1.v 1 rfl
  clear f1
  show Code.wp _ _ _ a1 w1
  refine wp_seq ?_
  refine wp_seq ?_
  refine region_St (bf := [0, 1, 3]) (sp := [
      (det (Nw w) 7 v),
        (det (Nw w) 8 (.int .i64 ((xs.length : Int)))),
        (det (Nw w) 9 (.bool (decide ((xs.length : Int) = 0))))])
    [] mixed st1 (by kernel_rfl) trivial
    ⟨Ob.det rfl rfl rfl (fun _ a_ _ _ c => r_move rfl (c.eo e1 (by kernel_rfl))),
       Ob.det rfl rfl rfl (fun _ a_ _ _ c => r_len rfl Try.underlying22 (c.ev 0 rfl rfl) hS.sl),
       Ob.det rfl rfl rfl (fun _ a_ _ _ c => r_eql rfl (c.ev 1 rfl rfl) rfl),
     trivial⟩ ?_
  intro a2 w2 τ2 st2 f2
  replace e0 := f2.old e0 (by kernel_rfl)
  replace e1 := f2.old e1 (by kernel_rfl)
  replace e4 := f2.old e4 (by kernel_rfl)
  replace e5 := f2.old e5 (by kernel_rfl)
  have e9 : get a2 9 = (.bool (decide ((xs.length : Int) = 0))) := f2.v 2 rfl
  clear f2
  show Code.wp _ _ _ a2 w2
  refine wp_cond_split (t := decide ((xs.length : Int) = 0)) e9 (fun hc1 => ?_) (fun hc1 => ?_)
  · have hd1 := hc1; try simp only [Bool.and_eq_true, Bool.or_eq_true, decide_eq_true_eq, decide_eq_false_iff_not, Bool.not_eq_true', Bool.and_eq_false_iff, Bool.or_eq_false_iff, Bool.not_eq_false', Int.not_lt, Int.not_le, beq_iff_eq, selB] at hd1
    refine wp_seq ?_
    refine region_St (bf := [0, 1]) (sp := [
        (det (Nw w) 4 (.slice none 0 0)),
            (det (Nw w) 5 (.int .i64 (2)))])
      [] mixed st2 (by kernel_rfl) trivial
      ⟨Ob.det rfl rfl rfl (fun _ a_ _ _ c => r_assign rfl rfl),
           Ob.det rfl rfl rfl (fun _ a_ _ _ c => r_assign rfl rfl),
       trivial⟩ ?_
    intro a3 w3 τ3 st3 f3
    replace e0 := f3.old e0 (by kernel_rfl)
    replace e1 := f3.old e1 (by kernel_rfl)
    have e4 : get a3 4 = (.slice none 0 0) := f3.v 0 rfl
    have e5 : get a3 5 = (.int .i64 (2)) := f3.v 1 rfl
    clear f3
    show Code.wp _ _ _ a3 w3
    refine wp_ret ?_
    repeat (first | with_reducible refine then_ret ?_ | with_reducible refine block_ret ?_)
    refine ret2 (fn := Try.f11) rfl st3.defers e4 e5 ?_
    obtain ⟨k1, k2⟩ := normE_2 (n := n) hc1
    rw [k1, k2]
    exact ⟨_, rfl, st3.ext0, OwnT.nil _ _ _, fun g_ h_ => by simp [Value.ownBlock] at h_⟩
  have hd1 := hc1; try simp only [Bool.and_eq_true, Bool.or_eq_true, decide_eq_true_eq, decide_eq_false_iff_not, Bool.not_eq_true', Bool.and_eq_false_iff, Bool.or_eq_false_iff, Bool.not_eq_false', Int.not_lt, Int.not_le, beq_iff_eq, selB] at hd1
  refine wp_skip ?_
  show Code.wp _ _ _ a2 w2
  refine wp_seq ?_
  refine wp_seq ?_
  refine region_St (bf := [0, 1, 3]) (sp := [
      (det (Nw w) 10 v),
        (det (Nw w) 11 (.int .i64 ((xs.length : Int)))),
        (det (Nw w) 12 (.bool (decide (64 < (xs.length : Int)))))])
    [] mixed st2 (by kernel_rfl) trivial
    ⟨Ob.det rfl rfl rfl (fun _ a_ _ _ c => r_move rfl (c.eo e1 (by kernel_rfl))),
       Ob.det rfl rfl rfl (fun _ a_ _ _ c => r_len rfl Try.underlying22 (c.ev 0 rfl rfl) hS.sl),
       Ob.det rfl rfl rfl (fun _ a_ _ _ c => r_gtr rfl (c.ev 1 rfl rfl) rfl),
     trivial⟩ ?_
  intro a4 w4 τ4 st4 f4
  replace e0 := f4.old e0 (by kernel_rfl)
  replace e1 := f4.old e1 (by kernel_rfl)
  replace e4 := f4.old e4 (by kernel_rfl)
  replace e5 := f4.old e5 (by kernel_rfl)
  have e12 : get a4 12 = (.bool (decide (64 < (xs.length : Int)))) := f4.v 2 rfl
  clear f4
  show Code.wp _ _ _ a4 w4
  refine wp_cond_split (t := decide (64 < (xs.length : Int))) e12 (fun hc2 => ?_) (fun hc2 => ?_)
  · have hd2 := hc2; try simp only [Bool.and_eq_true, Bool.or_eq_true, decide_eq_true_eq, decide_eq_false_iff_not, Bool.not_eq_true', Bool.and_eq_false_iff, Bool.or_eq_false_iff, Bool.not_eq_false', Int.not_lt, Int.not_le, beq_iff_eq, selB] at hd2
    refine wp_seq ?_
    refine region_St (bf := [0, 1]) (sp := [
        (det (Nw w) 4 (.slice none 0 0)),
            (det (Nw w) 5 (.int .i64 (7)))])
      [] mixed st4 (by kernel_rfl) trivial
      ⟨Ob.det rfl rfl rfl (fun _ a_ _ _ c => r_assign rfl rfl),
           Ob.det rfl rfl rfl (fun _ a_ _ _ c => r_assign rfl rfl),
       trivial⟩ ?_
    intro a5 w5 τ5 st5 f5
    replace e0 := f5.old e0 (by kernel_rfl)
    replace e1 := f5.old e1 (by kernel_rfl)
    have e4 : get a5 4 = (.slice none 0 0) := f5.v 0 rfl
    have e5 : get a5 5 = (.int .i64 (7)) := f5.v 1 rfl
    clear f5
    show Code.wp _ _ _ a5 w5
    refine wp_ret ?_
    repeat (first | with_reducible refine then_ret ?_ | with_reducible refine block_ret ?_)
    refine ret2 (fn := Try.f11) rfl st5.defers e4 e5 ?_
    obtain ⟨k1, k2⟩ := normE_7 (n := n) hc1 hc2
    rw [k1, k2]
    exact ⟨_, rfl, st5.ext0, OwnT.nil _ _ _, fun g_ h_ => by simp [Value.ownBlock] at h_⟩
  have hd2 := hc2; try simp only [Bool.and_eq_true, Bool.or_eq_true, decide_eq_true_eq, decide_eq_false_iff_not, Bool.not_eq_true', Bool.and_eq_false_iff, Bool.or_eq_false_iff, Bool.not_eq_false', Int.not_lt, Int.not_le, beq_iff_eq, selB] at hd2
  refine wp_skip ?_
  show Code.wp _ _ _ a4 w4
  refine wp_seq ?_
  refine wp_seq ?_
  refine region_St (bf := [0]) (sp := [
      (det (Nw w) 6 (.int .i64 (0)))])
    [] mixed st4 (by kernel_rfl) trivial
    ⟨Ob.det rfl rfl rfl (fun _ a_ _ _ c => r_assign rfl rfl),
     trivial⟩ ?_
  intro a6 w6 τ6 st6 f6
  replace e0 := f6.old e0 (by kernel_rfl)
  replace e1 := f6.old e1 (by kernel_rfl)
  replace e4 := f6.old e4 (by kernel_rfl)
  replace e5 := f6.old e5 (by kernel_rfl)
  have e6 : get a6 6 = (.int .i64 (0)) := f6.v 0 rfl
  clear f6
  show Code.wp _ _ _ a6 w6
  refine wp_block ?_
  refine wp_loop (fun a_ w_ => ∃ (k : Nat) (τ : Nat → Foot), (k ≤ xs.length) ∧
        (∀ i < k, (!mayB (sspan (nth xs ((i : Nat) : Int))) n) = false) ∧
        St (Nw w) w 29 a_ w_ τ ∧
        get a_ 6 = (.int .i64 ((k : Int))) ∧
        get a_ 0 = (.int .i64 (n)) ∧
        get a_ 1 = v) (fun a_ _ => xs.length - (intOf (get a_ 6)).toNat) ?_ ?_
  · refine ⟨0, τ6, ?_, ?_, st6, (e6.trans (int_eq (by omega))), e0, e1⟩
    · omega
    · intro i hi; omega
  intro a7 w7 hI
  obtain ⟨k, τ7, q0, q1, st7, e6, e0, e1⟩ := hI
  have m6 := e6
  refine wp_seq ?_
  refine wp_seq ?_
  refine region_St (bf := [0, 0, 2, 7]) (sp := [
      (det (Nw w) 13 (.int .i64 ((k : Int)))),
        (det (Nw w) 14 v),
        (det (Nw w) 15 (.int .i64 ((xs.length : Int)))),
        (det (Nw w) 16 (.bool (decide ((k : Int) < (xs.length : Int)))))])
    [] mixed st7 (by kernel_rfl) trivial
    ⟨Ob.det rfl rfl rfl (fun _ a_ _ _ c => r_move rfl (c.eo e6 (by kernel_rfl))),
       Ob.det rfl rfl rfl (fun _ a_ _ _ c => r_move rfl (c.eo e1 (by kernel_rfl))),
       Ob.det rfl rfl rfl (fun _ a_ _ _ c => r_len rfl Try.underlying22 (c.ev 1 rfl rfl) hS.sl),
       Ob.det rfl rfl rfl (fun _ a_ _ _ c => r_lss rfl (c.ev 0 rfl rfl) (c.ev 2 rfl rfl)),
     trivial⟩ ?_
  intro a8 w8 τ8 st8 f8
  replace e0 := f8.old e0 (by kernel_rfl)
  replace e1 := f8.old e1 (by kernel_rfl)
  replace e6 := f8.old e6 (by kernel_rfl)
  have e16 : get a8 16 = (.bool (decide ((k : Int) < (xs.length : Int)))) := f8.v 3 rfl
  clear f8
  show Code.wp _ _ _ a8 w8
  refine wp_cond_split (t := decide ((k : Int) < (xs.length : Int))) e16 (fun hc3 => ?_) (fun hc3 => ?_)
  · try simp only [Bool.and_eq_true, Bool.or_eq_true, decide_eq_true_eq, decide_eq_false_iff_not, Bool.not_eq_true', Bool.and_eq_false_iff, Bool.or_eq_false_iff, Bool.not_eq_false', Int.not_lt, Int.not_le, beq_iff_eq, selB] at hc3
    refine wp_skip ?_
    show Code.wp _ _ _ a8 w8
    refine wp_seq ?_
    refine wp_block ?_
    refine wp_seq ?_
    refine region_St (bf := [0, 0, 3, 7, 15, 0, 63, 127]) (sp := [
        (det (Nw w) 19 v),
            (det (Nw w) 20 (.int .i64 ((k : Int)))),
            (det (Nw w) 21 (.pointer (some ((ptrOf v).add (((k : Int) : Int).toNat * 2))))),
            (det (Nw w) 22 (.agg #[(.int .i64 ((nth xs ((k : Int))).1)), (.int .i64 ((nth xs ((k : Int))).2))])),
            (det (Nw w) 23 (.agg #[(.int .i64 ((sspan (nth xs ((k : Int)))).1)), (.int .i64 ((sspan (nth xs ((k : Int)))).2))])),
            (det (Nw w) 24 (.int .i64 (n))),
            (det (Nw w) 25 (.bool (mayB (sspan (nth xs ((k : Int)))) n))),
            (det (Nw w) 26 (.bool (!(mayB (sspan (nth xs ((k : Int)))) n))))])
      [] mixed st8 (by kernel_rfl) trivial
      ⟨Ob.det rfl rfl rfl (fun _ a_ _ _ c => r_move rfl (c.eo e1 (by kernel_rfl))),
           Ob.det rfl rfl rfl (fun _ a_ _ _ c => r_move rfl (c.eo e6 (by kernel_rfl))),
           Ob.det rfl rfl rfl (fun _ a_ _ _ c => r_indexAddr rfl Try.underlying22 Try.sizeOf33 (c.ev 0 rfl rfl) hS.sl (c.ev 1 rfl rfl) (by omega) (by omega)),
           Ob.det rfl rfl rfl (fun _ a_ _ _ c => r_loadN (vs := [(.int .i64 ((nth xs ((k : Int))).1)), (.int .i64 ((nth xs ((k : Int))).2))]) rfl Try.isAgg33 Try.sizeOf33 (c.ev 2 rfl rfl) rfl (fun _ _ hj => ((hS.at (st8.ext.trans c.J.ext))).elem (nth_some (by omega) (by omega)) hj)),
           Ob.call rfl rfl rfl (fun _ a_ _ _ c => ⟨_, _, (e_call1 rfl rfl Try.call21 (c.ev 3 rfl rfl)), refSelSpan_c (nth xs ((k : Int))) _⟩),
           Ob.det rfl rfl rfl (fun _ a_ _ _ c => r_move rfl (c.eo e0 (by kernel_rfl))),
           Ob.call rfl rfl rfl (fun _ a_ _ _ c => ⟨_, _, (e_call2 rfl rfl Try.call20 (c.ev 4 rfl rfl) (c.ev 5 rfl rfl)), refMay_c (sspan (nth xs ((k : Int)))) n _⟩),
           Ob.det rfl rfl rfl (fun _ a_ _ _ c => r_not rfl (c.ev 6 rfl rfl)),
       trivial⟩ ?_
    intro a9 w9 τ9 st9 f9
    replace e0 := f9.old e0 (by kernel_rfl)
    replace e1 := f9.old e1 (by kernel_rfl)
    replace e6 := f9.old e6 (by kernel_rfl)
    replace e16 := f9.old e16 (by kernel_rfl)
    have e26 : get a9 26 = (.bool (!(mayB (sspan (nth xs ((k : Int)))) n))) := f9.v 7 rfl
    clear f9
    show Code.wp _ _ _ a9 w9
    refine wp_cond_split (t := !(mayB (sspan (nth xs ((k : Int)))) n)) e26 (fun hc4 => ?_) (fun hc4 => ?_)
    · have hd4 := hc4; try simp only [Bool.and_eq_true, Bool.or_eq_true, decide_eq_true_eq, decide_eq_false_iff_not, Bool.not_eq_true', Bool.and_eq_false_iff, Bool.or_eq_false_iff, Bool.not_eq_false', Int.not_lt, Int.not_le, beq_iff_eq, selB] at hd4
      refine wp_seq ?_
      refine region_St (bf := [0, 1]) (sp := [
          (det (Nw w) 4 (.slice none 0 0)),
                (det (Nw w) 5 (.int .i64 (3)))])
        [] mixed st9 (by kernel_rfl) trivial
        ⟨Ob.det rfl rfl rfl (fun _ a_ _ _ c => r_assign rfl rfl),
               Ob.det rfl rfl rfl (fun _ a_ _ _ c => r_assign rfl rfl),
         trivial⟩ ?_
      intro a10 w10 τ10 st10 f10
      replace e0 := f10.old e0 (by kernel_rfl)
      replace e1 := f10.old e1 (by kernel_rfl)
      have e4 : get a10 4 = (.slice none 0 0) := f10.v 0 rfl
      have e5 : get a10 5 = (.int .i64 (3)) := f10.v 1 rfl
      replace e6 := f10.old e6 (by kernel_rfl)
      replace e16 := f10.old e16 (by kernel_rfl)
      replace e26 := f10.old e26 (by kernel_rfl)
      clear f10
      show Code.wp _ _ _ a10 w10
      refine wp_ret ?_
      repeat (first | with_reducible refine then_ret ?_ | with_reducible refine block_ret ?_)
      refine ret2 (fn := Try.f11) rfl st10.defers e4 e5 ?_
      obtain ⟨k1, k2⟩ := normE_3 (n := n) (k := k) hc1 hc2 (by omega) (by assumption)
      rw [k1, k2]
      exact ⟨_, rfl, st10.ext0, OwnT.nil _ _ _, fun g_ h_ => by simp [Value.ownBlock] at h_⟩
    have hd4 := hc4; try simp only [Bool.and_eq_true, Bool.or_eq_true, decide_eq_true_eq, decide_eq_false_iff_not, Bool.not_eq_true', Bool.and_eq_false_iff, Bool.or_eq_false_iff, Bool.not_eq_false', Int.not_lt, Int.not_le, beq_iff_eq, selB] at hd4
    refine wp_skip ?_
    show _
    show Code.wp _ _ _ a9 w9
    refine region_St (bf := [0, 1, 3]) (sp := [
        (det (Nw w) 17 (.int .i64 ((k : Int)))),
            (det (Nw w) 18 (.int .i64 ((k : Int) + 1))),
            (det (Nw w) 6 (.int .i64 ((k : Int) + 1)))])
      [] mixed st9 (by kernel_rfl) trivial
      ⟨Ob.det rfl rfl rfl (fun _ a_ _ _ c => r_move rfl (c.eo e6 (by kernel_rfl))),
           Ob.det rfl rfl rfl (fun _ a_ _ _ c => r_add rfl (c.ev 0 rfl rfl) rfl (by omega)),
           Ob.det rfl rfl rfl (fun _ a_ _ _ c => r_assign rfl (c.ev 1 rfl rfl)),
       trivial⟩ ?_
    intro a11 w11 τ11 st11 f11
    replace e0 := f11.old e0 (by kernel_rfl)
    replace e1 := f11.old e1 (by kernel_rfl)
    have e6 : get a11 6 = (.int .i64 ((k : Int) + 1)) := f11.v 2 rfl
    replace e16 := f11.old e16 (by kernel_rfl)
    replace e26 := f11.old e26 (by kernel_rfl)
    clear f11
    refine ⟨⟨k + 1, τ11, ?_, ?_, st11, (e6.trans (int_eq (by omega))), e0, e1⟩, ?_⟩
    · omega
    · exact upto_succ (f := fun i => !mayB (sspan (nth xs i)) n) q1 (by assumption)
    · simp only [m6, e6, intOf]; omega
  try simp only [Bool.and_eq_true, Bool.or_eq_true, decide_eq_true_eq, decide_eq_false_iff_not, Bool.not_eq_true', Bool.and_eq_false_iff, Bool.or_eq_false_iff, Bool.not_eq_false', Int.not_lt, Int.not_le, beq_iff_eq, selB] at hc3
  refine wp_exit ?_
  repeat (with_reducible refine then_exit ?_)
  refine exit_here ?_
  show Code.wp _ _ _ a8 w8
  refine wp_seq ?_
  refine region_St (bf := [0, 1, 3, 7]) (sp := [
      (det (Nw w) 27 v),
        (own SpanE 33 (Nw w) 0 28 (mergeF xs)),
        (own SpanE 33 (Nw w) 0 4 (mergeF xs)),
        (det (Nw w) 5 (.int .i64 (0)))])
    [] mixed st8 (by kernel_rfl) trivial
    ⟨Ob.det rfl rfl rfl (fun _ a_ _ _ c => r_move rfl (c.eo e1 (by kernel_rfl))),
       Ob.callOwn rfl rfl rfl (fun _ a_ _ _ c => ⟨_, _, (e_call1 rfl rfl Try.call22 (c.ev 0 rfl rfl)), merge_c v xs _ (hS.at (st8.ext.trans c.J.ext)) (by omega)⟩),
       Ob.moveT (t0 := 28) rfl rfl rfl rfl rfl (.inr rfl) (fun _ _ _ _ c => ⟨c.rown 1 rfl rfl (by kernel_rfl), rfl⟩),
       Ob.det rfl rfl rfl (fun _ a_ _ _ c => r_assign rfl rfl),
     trivial⟩ ?_
  intro a12 w12 τ12 st12 f12
  obtain ⟨b12x4, e4⟩ : ∃ b, get a12 4 = b := ⟨_, rfl⟩
  have e5 : get a12 5 = (.int .i64 (0)) := f12.v 3 rfl
  have r0 : ownR SpanE 33 (mergeF xs) (τ12 0) b12x4 w12 := f12.rown 2 rfl rfl e4
  clear f12
  show Code.wp _ _ _ a12 w12
  refine wp_ret ?_
  repeat (first | with_reducible refine then_ret ?_ | with_reducible refine block_ret ?_)
  refine ret2 (fn := Try.f11) rfl st12.defers e4 e5 ?_
  replace r0 := r0.cast (show ordF xs = mergeF xs from by exact (mergeF_eq xs).symm)
  obtain ⟨k1, k2⟩ := normE_ok (n := n) hc1 hc2 q1 (by omega)
  rw [k1, k2]
  exact ⟨_, rfl, st12.ext0, r0.1, fun g_ h_ => (st12.bnd _ g_ (r0.2 g_ h_)).1⟩

set_option maxRecDepth 100000 in
theorem some_c (v : Value) (xs : List (Int × Int)) (w : World) (hS : SlT SpanE w v xs) (hbig : xs.length ≤ 1000000000000) : Calls Try.prog 12 #[v] w (fun e w' => ∃ v', e = .returned v' ∧ Ext none' w w' ∧ NewT SpanE 33 w w' v' (someF xs)) := by
  refine enter (n := 28) Try.func12 rfl rfl (Nat.le_of_ble_eq_true rfl) ?_
  intro a0 τ0 ha st0
  have e0 : get a0 0 = v := ha 0 _ rfl
  clear ha
  have hle := hS.le
  refine wp_seq ?_
  refine region_St (bf := [0]) (sp := [
      (det (Nw w) 2 (.slice none 0 0))])
    [] mixed st0 (by kernel_rfl) trivial
    ⟨Ob.det rfl rfl rfl (fun _ a_ _ _ c => r_assign rfl rfl),
     trivial⟩ ?_
  intro a1 w1 τ1 st1 f1
  replace e0 := f1.old e0 (by kernel_rfl)
  have e2 : get a1 2 = (.slice none 0 0) := f1.v 0 rfl
  clear f1
  show Code.wp _ _ _ a1 w1
  refine wp_seq ?_
  refine region_St (bf := [0]) (sp := [
      (det (Nw w) 3 (.slice none 0 0))])
    [] mixed st1 (by kernel_rfl) trivial
    ⟨Ob.det rfl rfl rfl (fun _ a_ _ _ c => r_assign rfl rfl),
     trivial⟩ ?_
  intro a2 w2 τ2 st2 f2
  replace e0 := f2.old e0 (by kernel_rfl)
  replace e2 := f2.old e2 (by kernel_rfl)
  have e3 : get a2 3 = (.slice none 0 0) := f2.v 0 rfl
  clear f2
  show Code.wp _ _ _ a2 w2
  refine wp_seq ?_
  refine wp_seq ?_
  refine region_St (bf := [0]) (sp := [
      (det (Nw w) 4 (.int .i64 (0)))])
    [] mixed st2 (by kernel_rfl) trivial
    ⟨Ob.det rfl rfl rfl (fun _ a_ _ _ c => r_assign rfl rfl),
     trivial⟩ ?_
  intro a3 w3 τ3 st3 f3
  replace e0 := f3.old e0 (by kernel_rfl)
  replace e2 := f3.old e2 (by kernel_rfl)
  replace e3 := f3.old e3 (by kernel_rfl)
  have e4 : get a3 4 = (.int .i64 (0)) := f3.v 0 rfl
  clear f3
  show Code.wp _ _ _ a3 w3
  refine wp_block ?_
  refine wp_loop (fun a_ w_ => ∃ (i : Nat) (o : Value) (τ : Nat → Foot), (i ≤ xs.length) ∧
        St (Nw w) w 28 a_ w_ τ ∧
        get a_ 3 = o ∧
        get a_ 4 = (.int .i64 ((i : Int))) ∧
        get a_ 0 = v ∧
        get a_ 2 = (.slice none 0 0) ∧
        ownR SpanE 33 (someF (xs.take i)) (τ 0) o w_) (fun a_ _ => xs.length - (intOf (get a_ 4)).toNat) ?_ ?_
  · refine ⟨0, (.slice none 0 0), τ3, ?_, st3, e3, (e4.trans (int_eq (by omega))), e0, e2, ?_⟩
    · omega
    · exact ownR.nil _ _ _ _
  intro a4 w4 hI
  obtain ⟨i, o, τ4, q0, st4, e3, e4, e0, e2, r0⟩ := hI
  have hml := someF_len (xs.take i)
  have htl := List.length_take_le i xs
  have m4 := e4
  refine wp_seq ?_
  refine wp_seq ?_
  refine region_St (bf := [0, 0, 2, 7]) (sp := [
      (det (Nw w) 5 (.int .i64 ((i : Int)))),
        (det (Nw w) 6 v),
        (det (Nw w) 7 (.int .i64 ((xs.length : Int)))),
        (det (Nw w) 8 (.bool (decide ((i : Int) < (xs.length : Int)))))])
    [(iown SpanE 33 (Nw w) o (someF (xs.take i)))] mixed st4 (by kernel_rfl) ⟨r0, trivial⟩
    ⟨Ob.det rfl rfl rfl (fun _ a_ _ _ c => r_move rfl (c.eo e4 (by kernel_rfl))),
       Ob.det rfl rfl rfl (fun _ a_ _ _ c => r_move rfl (c.eo e0 (by kernel_rfl))),
       Ob.det rfl rfl rfl (fun _ a_ _ _ c => r_len rfl Try.underlying23 (c.ev 1 rfl rfl) hS.sl),
       Ob.det rfl rfl rfl (fun _ a_ _ _ c => r_lss rfl (c.ev 0 rfl rfl) (c.ev 2 rfl rfl)),
     trivial⟩ ?_
  intro a5 w5 τ5 st5 f5
  replace e0 := f5.old e0 (by kernel_rfl)
  replace e2 := f5.old e2 (by kernel_rfl)
  replace e3 := f5.old e3 (by kernel_rfl)
  replace e4 := f5.old e4 (by kernel_rfl)
  have e8 : get a5 8 = (.bool (decide ((i : Int) < (xs.length : Int)))) := f5.v 3 rfl
  replace r0 : ownR SpanE 33 (someF (xs.take i)) (τ5 0) o w5 := f5.iown 0 rfl rfl
  clear f5
  show Code.wp _ _ _ a5 w5
  refine wp_cond_split (t := decide ((i : Int) < (xs.length : Int))) e8 (fun hc1 => ?_) (fun hc1 => ?_)
  · try simp only [Bool.and_eq_true, Bool.or_eq_true, decide_eq_true_eq, decide_eq_false_iff_not, Bool.not_eq_true', Bool.and_eq_false_iff, Bool.or_eq_false_iff, Bool.not_eq_false', Int.not_lt, Int.not_le, beq_iff_eq, selB] at hc1
    refine wp_skip ?_
    show Code.wp _ _ _ a5 w5
    refine wp_seq ?_
    refine wp_block ?_
    refine region_St (bf := [0, 0, 0, 6, 14, 30, 62, 0, 0, 384, 896, 1920, 4094, 8190, 16382, 32767, 65535]) (sp := [
        (det (Nw w) 11 o),
            (det (Nw w) 12 v),
            (det (Nw w) 13 (.int .i64 ((i : Int)))),
            (det (Nw w) 14 (.pointer (some ((ptrOf v).add (((i : Int) : Int).toNat * 2))))),
            (det (Nw w) 15 (.pointer (some (((ptrOf v).add (((i : Int) : Int).toNat * 2)).add 0)))),
            (det (Nw w) 16 (.int .i64 ((nth xs ((i : Int))).1))),
            (det (Nw w) 17 (.int .i64 (lowF ((nth xs ((i : Int))).1) 61))),
            (det (Nw w) 18 v),
            (det (Nw w) 19 (.int .i64 ((i : Int)))),
            (det (Nw w) 20 (.pointer (some ((ptrOf v).add (((i : Int) : Int).toNat * 2))))),
            (det (Nw w) 21 (.pointer (some (((ptrOf v).add (((i : Int) : Int).toNat * 2)).add 1)))),
            (det (Nw w) 22 (.int .i64 ((nth xs ((i : Int))).2))),
            (det (Nw w) 23 (.int .i64 (lowF ((nth xs ((i : Int))).2) 61))),
            (det (Nw w) 24 (.agg #[(.int .i64 (lowF ((nth xs ((i : Int))).1) 61)), (.int .i64 (lowF ((nth xs ((i : Int))).2) 61))])),
            (own SpanE 33 (Nw w) 1 25 ([(lowF ((nth xs ((i : Int))).1) 61, lowF ((nth xs ((i : Int))).2) 61)])),
            (own SpanE 33 (Nw w) 0 26 ((someF (xs.take i)) ++ ([(lowF ((nth xs ((i : Int))).1) 61, lowF ((nth xs ((i : Int))).2) 61)]))),
            (own SpanE 33 (Nw w) 0 3 ((someF (xs.take i)) ++ ([(lowF ((nth xs ((i : Int))).1) 61, lowF ((nth xs ((i : Int))).2) 61)])))])
      [(iown SpanE 33 (Nw w) o (someF (xs.take i)))] mixed st5 (by kernel_rfl) ⟨r0, trivial⟩
      ⟨Ob.det rfl rfl rfl (fun _ a_ _ _ c => r_move rfl (c.eo e3 (by kernel_rfl))),
           Ob.det rfl rfl rfl (fun _ a_ _ _ c => r_move rfl (c.eo e0 (by kernel_rfl))),
           Ob.det rfl rfl rfl (fun _ a_ _ _ c => r_move rfl (c.eo e4 (by kernel_rfl))),
           Ob.det rfl rfl rfl (fun _ a_ _ _ c => r_indexAddr rfl Try.underlying23 Try.sizeOf49 (c.ev 1 rfl rfl) hS.sl (c.ev 2 rfl rfl) (by omega) (by omega)),
           Ob.det rfl rfl rfl (fun _ a_ _ _ c => r_indexArr (k0 := 0) rfl Try.underlying49 Try.sizeOf3 (c.ev 3 rfl rfl) rfl (by omega) (by omega)),
           Ob.det rfl rfl rfl (fun _ a_ _ _ c => r_load1 rfl Try.isAgg3 (c.ev 4 rfl rfl) (((hS.at (st5.ext.trans c.J.ext))).elem (j := 0) (nth_some (by omega) (by omega)) rfl)),
           Ob.call rfl rfl rfl (fun _ a_ _ _ c => ⟨_, _, (e_call2 rfl rfl Try.call14 (c.ev 5 rfl rfl) rfl), low_c ((nth xs ((i : Int))).1) 61 _ (by omega) (by omega)⟩),
           Ob.det rfl rfl rfl (fun _ a_ _ _ c => r_move rfl (c.eo e0 (by kernel_rfl))),
           Ob.det rfl rfl rfl (fun _ a_ _ _ c => r_move rfl (c.eo e4 (by kernel_rfl))),
           Ob.det rfl rfl rfl (fun _ a_ _ _ c => r_indexAddr rfl Try.underlying23 Try.sizeOf49 (c.ev 7 rfl rfl) hS.sl (c.ev 8 rfl rfl) (by omega) (by omega)),
           Ob.det rfl rfl rfl (fun _ a_ _ _ c => r_indexArr (k0 := 1) rfl Try.underlying49 Try.sizeOf3 (c.ev 9 rfl rfl) rfl (by omega) (by omega)),
           Ob.det rfl rfl rfl (fun _ a_ _ _ c => r_load1 rfl Try.isAgg3 (c.ev 10 rfl rfl) (((hS.at (st5.ext.trans c.J.ext))).elem (j := 1) (nth_some (by omega) (by omega)) rfl)),
           Ob.call rfl rfl rfl (fun _ a_ _ _ c => ⟨_, _, (e_call2 rfl rfl Try.call14 (c.ev 11 rfl rfl) rfl), low_c ((nth xs ((i : Int))).2) 61 _ (by omega) (by omega)⟩),
           Ob.det rfl rfl rfl (fun _ a_ _ _ c => r_build (cells := #[(.int .i64 (lowF ((nth xs ((i : Int))).1) 61)), (.int .i64 (lowF ((nth xs ((i : Int))).2) 61))]) rfl Try.underlying33 Try.zeroValue33 (pl := #[(0, 1), (1, 1)]) (fun w_ => by simp [Try.sizeOf3]) (by simp only [List.map_toArray, List.map_cons, List.map_nil, (show a_.eval (.tmp 17) = (.int .i64 (lowF ((nth xs ((i : Int))).1) 61)) from (c.ev 6 rfl rfl)), (show a_.eval (.tmp 23) = (.int .i64 (lowF ((nth xs ((i : Int))).2) 61)) from (c.ev 12 rfl rfl))]; rfl)),
           Ob.buildSlice (cells := #[(.int .i64 (lowF ((nth xs ((i : Int))).1) 61)), (.int .i64 (lowF ((nth xs ((i : Int))).2) 61))]) rfl rfl rfl rfl Try.underlying22 Try.sizeOf33 Try.zeroValue33 rfl (by decide) (by decide) (fun _ a_ _ _ c => by simp only [List.map_toArray, List.map_cons, List.map_nil, (show a_.eval (.tmp 24) = (.agg #[(.int .i64 (lowF ((nth xs ((i : Int))).1) 61)), (.int .i64 (lowF ((nth xs ((i : Int))).2) 61))]) from (c.ev 13 rfl rfl))]; kernel_rfl) rfl,
           Ob.append (t0 := 3) rfl rfl rfl rfl Try.underlying22 (i := Try.t33) rfl rfl rfl rfl (by simp only [maxLen]; (try simp); omega) (by show _ * 16 ≤ _; (try simp); omega) (fun _ _ _ _ c => ⟨by rw [(show get _ 3 = o from c.old e3 (by kernel_rfl))]; exact c.iown 0 rfl rfl (by kernel_rfl), (c.ev 0 rfl rfl).trans (show o = get _ 3 from (c.old e3 (by kernel_rfl)).symm), ⟨_, rfl, (c.rown 14 rfl rfl (by kernel_rfl)).1.sl⟩⟩),
           Ob.moveT (t0 := 26) rfl rfl rfl rfl rfl (.inr rfl) (fun _ _ _ _ c => ⟨c.rown 15 rfl rfl (by kernel_rfl), rfl⟩),
       trivial⟩ ?_
    intro a6 w6 τ6 st6 f6
    obtain ⟨b6x25, e25⟩ : ∃ b, get a6 25 = b := ⟨_, rfl⟩
    obtain ⟨b6x3, e3⟩ : ∃ b, get a6 3 = b := ⟨_, rfl⟩
    replace e0 := f6.old e0 (by kernel_rfl)
    replace e2 := f6.old e2 (by kernel_rfl)
    replace e4 := f6.old e4 (by kernel_rfl)
    replace e8 := f6.old e8 (by kernel_rfl)
    have r0 : ownR SpanE 33 ((someF (xs.take i)) ++ ([(lowF ((nth xs ((i : Int))).1) 61, lowF ((nth xs ((i : Int))).2) 61)])) (τ6 0) b6x3 w6 := f6.rown 16 rfl rfl e3
    have r1 : ownR SpanE 33 ([(lowF ((nth xs ((i : Int))).1) 61, lowF ((nth xs ((i : Int))).2) 61)]) (τ6 1) b6x25 w6 := f6.rown 14 rfl rfl e25
    clear f6
    show _
    show Code.wp _ _ _ a6 w6
    refine region_St (bf := [0, 1, 3]) (sp := [
        (det (Nw w) 9 (.int .i64 ((i : Int)))),
            (det (Nw w) 10 (.int .i64 ((i : Int) + 1))),
            (det (Nw w) 4 (.int .i64 ((i : Int) + 1)))])
      [(iown SpanE 33 (Nw w) b6x3 ((someF (xs.take i)) ++ ([(lowF ((nth xs ((i : Int))).1) 61, lowF ((nth xs ((i : Int))).2) 61)]))), (iown SpanE 33 (Nw w) b6x25 ([(lowF ((nth xs ((i : Int))).1) 61, lowF ((nth xs ((i : Int))).2) 61)]))] mixed st6 (by kernel_rfl) ⟨r0, r1, trivial⟩
      ⟨Ob.det rfl rfl rfl (fun _ a_ _ _ c => r_move rfl (c.eo e4 (by kernel_rfl))),
           Ob.det rfl rfl rfl (fun _ a_ _ _ c => r_add rfl (c.ev 0 rfl rfl) rfl (by omega)),
           Ob.det rfl rfl rfl (fun _ a_ _ _ c => r_assign rfl (c.ev 1 rfl rfl)),
       trivial⟩ ?_
    intro a7 w7 τ7 st7 f7
    replace e0 := f7.old e0 (by kernel_rfl)
    replace e2 := f7.old e2 (by kernel_rfl)
    replace e3 := f7.old e3 (by kernel_rfl)
    have e4 : get a7 4 = (.int .i64 ((i : Int) + 1)) := f7.v 2 rfl
    replace e8 := f7.old e8 (by kernel_rfl)
    replace r0 : ownR SpanE 33 ((someF (xs.take i)) ++ ([(lowF ((nth xs ((i : Int))).1) 61, lowF ((nth xs ((i : Int))).2) 61)])) (τ7 0) b6x3 w7 := f7.iown 0 rfl rfl
    replace r1 : ownR SpanE 33 ([(lowF ((nth xs ((i : Int))).1) 61, lowF ((nth xs ((i : Int))).2) 61)]) (τ7 1) b6x25 w7 := f7.iown 1 rfl rfl
    clear f7
    refine ⟨⟨i + 1, b6x3, τ7, ?_, st7, e3, (e4.trans (int_eq (by omega))), e0, e2, ?_⟩, ?_⟩
    · omega
    · exact r0.cast (by exact map_succ (by omega))
    · simp only [m4, e4, intOf]; omega
  try simp only [Bool.and_eq_true, Bool.or_eq_true, decide_eq_true_eq, decide_eq_false_iff_not, Bool.not_eq_true', Bool.and_eq_false_iff, Bool.or_eq_false_iff, Bool.not_eq_false', Int.not_lt, Int.not_le, beq_iff_eq, selB] at hc1
  refine wp_exit ?_
  repeat (with_reducible refine then_exit ?_)
  refine exit_here ?_
  show Code.wp _ _ _ a5 w5
  refine wp_seq ?_
  refine region_St (bf := [0, 1]) (sp := [
      (det (Nw w) 27 o),
        (det (Nw w) 2 o)])
    [(iown SpanE 33 (Nw w) o (someF (xs.take i)))] mixed st5 (by kernel_rfl) ⟨r0, trivial⟩
    ⟨Ob.det rfl rfl rfl (fun _ a_ _ _ c => r_move rfl (c.eo e3 (by kernel_rfl))),
       Ob.det rfl rfl rfl (fun _ a_ _ _ c => r_assign rfl (c.ev 0 rfl rfl)),
     trivial⟩ ?_
  intro a8 w8 τ8 st8 f8
  have e2 : get a8 2 = o := f8.v 1 rfl
  replace r0 : ownR SpanE 33 (someF (xs.take i)) (τ8 0) o w8 := f8.iown 0 rfl rfl
  clear f8
  show Code.wp _ _ _ a8 w8
  refine wp_ret ?_
  repeat (first | with_reducible refine then_ret ?_ | with_reducible refine block_ret ?_)
  refine ret1 (fn := Try.f12) rfl st8.defers e2 ?_
  replace r0 := r0.cast (show someF xs = _ from by rw [List.take_of_length_le (by omega)])
  exact ⟨_, rfl, st8.ext0, r0.1, fun g_ h_ => (st8.bnd _ g_ (r0.2 g_ h_)).1⟩

set_option maxRecDepth 100000 in
theorem selsEq_c (v u : Value) (xs ys : List (Int × Int)) (w : World) (hS : SlT SpanE w v xs) (hU : SlT SpanE w u ys) : Calls Try.prog 13 #[v, u] w (fun e w' => e = .returned (.bool (decide (xs = ys))) ∧ Ext none' w w') := by
  refine enter (n := 26) Try.func13 rfl rfl (Nat.le_of_ble_eq_true rfl) ?_
  intro a0 τ0 ha st0
  have e0 : get a0 0 = v := ha 0 _ rfl
  have e1 : get a0 1 = u := ha 1 _ rfl
  clear ha
  have hle := hS.le
  have hle2 := hU.le
  refine wp_seq ?_
  refine region_St (bf := [0]) (sp := [
      (det (Nw w) 4 (.bool (false)))])
    [] mixed st0 (by kernel_rfl) trivial
    ⟨Ob.det rfl rfl rfl (fun _ a_ _ _ c => r_assign rfl rfl),
     trivial⟩ ?_
  intro a1 w1 τ1 st1 f1
  replace e0 := f1.old e0 (by kernel_rfl)
  replace e1 := f1.old e1 (by kernel_rfl)
  have e4 : get a1 4 = (.bool (false)) := f1.v 0 rfl
  clear f1
  show Code.wp _ _ _ a1 w1
  refine wp_seq ?_
  refine wp_seq ?_
  refine region_St (bf := [0, 1, 0, 4, 15]) (sp := [
      (det (Nw w) 6 v),
        (det (Nw w) 7 (.int .i64 ((xs.length : Int)))),
        (det (Nw w) 8 u),
        (det (Nw w) 9 (.int .i64 ((ys.length : Int)))),
        (det (Nw w) 10 (.bool (!decide ((xs.length : Int) = (ys.length : Int)))))])
    [] mixed st1 (by kernel_rfl) trivial
    ⟨Ob.det rfl rfl rfl (fun _ a_ _ _ c => r_move rfl (c.eo e0 (by kernel_rfl))),
       Ob.det rfl rfl rfl (fun _ a_ _ _ c => r_len rfl Try.underlying22 (c.ev 0 rfl rfl) hS.sl),
       Ob.det rfl rfl rfl (fun _ a_ _ _ c => r_move rfl (c.eo e1 (by kernel_rfl))),
       Ob.det rfl rfl rfl (fun _ a_ _ _ c => r_len rfl Try.underlying22 (c.ev 2 rfl rfl) hU.sl),
       Ob.det rfl rfl rfl (fun _ a_ _ _ c => r_neq rfl (c.ev 1 rfl rfl) (c.ev 3 rfl rfl)),
     trivial⟩ ?_
  intro a2 w2 τ2 st2 f2
  replace e0 := f2.old e0 (by kernel_rfl)
  replace e1 := f2.old e1 (by kernel_rfl)
  replace e4 := f2.old e4 (by kernel_rfl)
  have e10 : get a2 10 = (.bool (!decide ((xs.length : Int) = (ys.length : Int)))) := f2.v 4 rfl
  clear f2
  show Code.wp _ _ _ a2 w2
  refine wp_cond_split (t := !decide ((xs.length : Int) = (ys.length : Int))) e10 (fun hc1 => ?_) (fun hc1 => ?_)
  · try simp only [Bool.and_eq_true, Bool.or_eq_true, decide_eq_true_eq, decide_eq_false_iff_not, Bool.not_eq_true', Bool.and_eq_false_iff, Bool.or_eq_false_iff, Bool.not_eq_false', Int.not_lt, Int.not_le, beq_iff_eq, selB] at hc1
    refine wp_seq ?_
    refine region_St (bf := [0]) (sp := [
        (det (Nw w) 4 (.bool (false)))])
      [] mixed st2 (by kernel_rfl) trivial
      ⟨Ob.det rfl rfl rfl (fun _ a_ _ _ c => r_assign rfl rfl),
       trivial⟩ ?_
    intro a3 w3 τ3 st3 f3
    replace e0 := f3.old e0 (by kernel_rfl)
    replace e1 := f3.old e1 (by kernel_rfl)
    have e4 : get a3 4 = (.bool (false)) := f3.v 0 rfl
    clear f3
    show Code.wp _ _ _ a3 w3
    refine wp_ret ?_
    repeat (first | with_reducible refine then_ret ?_ | with_reducible refine block_ret ?_)
    refine ret1 (fn := Try.f13) rfl st3.defers e4 ?_
    exact ⟨congrArg _ (congrArg _ (by first | (symm; exact decide_eq_false (fun h => by subst h; omega)) | (symm; exact decide_eq_false (differ (by assumption))) | (symm; exact decide_eq_true (all_same q1 q0 q2 (by assumption))))), st3.ext0⟩
  try simp only [Bool.and_eq_true, Bool.or_eq_true, decide_eq_true_eq, decide_eq_false_iff_not, Bool.not_eq_true', Bool.and_eq_false_iff, Bool.or_eq_false_iff, Bool.not_eq_false', Int.not_lt, Int.not_le, beq_iff_eq, selB] at hc1
  refine wp_skip ?_
  show Code.wp _ _ _ a2 w2
  refine wp_seq ?_
  refine wp_seq ?_
  refine region_St (bf := [0]) (sp := [
      (det (Nw w) 5 (.int .i64 (0)))])
    [] mixed st2 (by kernel_rfl) trivial
    ⟨Ob.det rfl rfl rfl (fun _ a_ _ _ c => r_assign rfl rfl),
     trivial⟩ ?_
  intro a4 w4 τ4 st4 f4
  replace e0 := f4.old e0 (by kernel_rfl)
  replace e1 := f4.old e1 (by kernel_rfl)
  replace e4 := f4.old e4 (by kernel_rfl)
  have e5 : get a4 5 = (.int .i64 (0)) := f4.v 0 rfl
  clear f4
  show Code.wp _ _ _ a4 w4
  refine wp_block ?_
  refine wp_loop (fun a_ w_ => ∃ (k : Nat) (τ : Nat → Foot), (k ≤ xs.length) ∧
        (xs.length = ys.length) ∧
        (xs.take k = ys.take k) ∧
        St (Nw w) w 26 a_ w_ τ ∧
        get a_ 5 = (.int .i64 ((k : Int))) ∧
        get a_ 0 = v ∧
        get a_ 1 = u) (fun a_ _ => xs.length - (intOf (get a_ 5)).toNat) ?_ ?_
  · refine ⟨0, τ4, ?_, ?_, ?_, st4, (e5.trans (int_eq (by omega))), e0, e1⟩
    · omega
    · omega
    · simp
  intro a5 w5 hI
  obtain ⟨k, τ5, q0, q1, q2, st5, e5, e0, e1⟩ := hI
  have m5 := e5
  refine wp_seq ?_
  refine wp_seq ?_
  refine region_St (bf := [0, 0, 2, 7]) (sp := [
      (det (Nw w) 11 (.int .i64 ((k : Int)))),
        (det (Nw w) 12 v),
        (det (Nw w) 13 (.int .i64 ((xs.length : Int)))),
        (det (Nw w) 14 (.bool (decide ((k : Int) < (xs.length : Int)))))])
    [] mixed st5 (by kernel_rfl) trivial
    ⟨Ob.det rfl rfl rfl (fun _ a_ _ _ c => r_move rfl (c.eo e5 (by kernel_rfl))),
       Ob.det rfl rfl rfl (fun _ a_ _ _ c => r_move rfl (c.eo e0 (by kernel_rfl))),
       Ob.det rfl rfl rfl (fun _ a_ _ _ c => r_len rfl Try.underlying22 (c.ev 1 rfl rfl) hS.sl),
       Ob.det rfl rfl rfl (fun _ a_ _ _ c => r_lss rfl (c.ev 0 rfl rfl) (c.ev 2 rfl rfl)),
     trivial⟩ ?_
  intro a6 w6 τ6 st6 f6
  replace e0 := f6.old e0 (by kernel_rfl)
  replace e1 := f6.old e1 (by kernel_rfl)
  replace e5 := f6.old e5 (by kernel_rfl)
  have e14 : get a6 14 = (.bool (decide ((k : Int) < (xs.length : Int)))) := f6.v 3 rfl
  clear f6
  show Code.wp _ _ _ a6 w6
  refine wp_cond_split (t := decide ((k : Int) < (xs.length : Int))) e14 (fun hc2 => ?_) (fun hc2 => ?_)
  · try simp only [Bool.and_eq_true, Bool.or_eq_true, decide_eq_true_eq, decide_eq_false_iff_not, Bool.not_eq_true', Bool.and_eq_false_iff, Bool.or_eq_false_iff, Bool.not_eq_false', Int.not_lt, Int.not_le, beq_iff_eq, selB] at hc2
    refine wp_skip ?_
    show Code.wp _ _ _ a6 w6
    refine wp_seq ?_
    refine wp_block ?_
    refine wp_seq ?_
    refine region_St (bf := [0, 0, 3, 7, 0, 0, 48, 112, 255]) (sp := [
        (det (Nw w) 17 v),
            (det (Nw w) 18 (.int .i64 ((k : Int)))),
            (det (Nw w) 19 (.pointer (some ((ptrOf v).add (((k : Int) : Int).toNat * 2))))),
            (det (Nw w) 20 (.agg #[(.int .i64 ((nth xs ((k : Int))).1)), (.int .i64 ((nth xs ((k : Int))).2))])),
            (det (Nw w) 21 u),
            (det (Nw w) 22 (.int .i64 ((k : Int)))),
            (det (Nw w) 23 (.pointer (some ((ptrOf u).add (((k : Int) : Int).toNat * 2))))),
            (det (Nw w) 24 (.agg #[(.int .i64 ((nth ys ((k : Int))).1)), (.int .i64 ((nth ys ((k : Int))).2))])),
            (det (Nw w) 25 (.bool (!(selB (nth xs ((k : Int))) (nth ys ((k : Int)))))))])
      [] mixed st6 (by kernel_rfl) trivial
      ⟨Ob.det rfl rfl rfl (fun _ a_ _ _ c => r_move rfl (c.eo e0 (by kernel_rfl))),
           Ob.det rfl rfl rfl (fun _ a_ _ _ c => r_move rfl (c.eo e5 (by kernel_rfl))),
           Ob.det rfl rfl rfl (fun _ a_ _ _ c => r_indexAddr rfl Try.underlying22 Try.sizeOf33 (c.ev 0 rfl rfl) hS.sl (c.ev 1 rfl rfl) (by omega) (by omega)),
           Ob.det rfl rfl rfl (fun _ a_ _ _ c => r_loadN (vs := [(.int .i64 ((nth xs ((k : Int))).1)), (.int .i64 ((nth xs ((k : Int))).2))]) rfl Try.isAgg33 Try.sizeOf33 (c.ev 2 rfl rfl) rfl (fun _ _ hj => ((hS.at (st6.ext.trans c.J.ext))).elem (nth_some (by omega) (by omega)) hj)),
           Ob.det rfl rfl rfl (fun _ a_ _ _ c => r_move rfl (c.eo e1 (by kernel_rfl))),
           Ob.det rfl rfl rfl (fun _ a_ _ _ c => r_move rfl (c.eo e5 (by kernel_rfl))),
           Ob.det rfl rfl rfl (fun _ a_ _ _ c => r_indexAddr rfl Try.underlying22 Try.sizeOf33 (c.ev 4 rfl rfl) hU.sl (c.ev 5 rfl rfl) (by omega) (by omega)),
           Ob.det rfl rfl rfl (fun _ a_ _ _ c => r_loadN (vs := [(.int .i64 ((nth ys ((k : Int))).1)), (.int .i64 ((nth ys ((k : Int))).2))]) rfl Try.isAgg33 Try.sizeOf33 (c.ev 6 rfl rfl) rfl (fun _ _ hj => ((hU.at (st6.ext.trans c.J.ext))).elem (nth_some (by omega) (by omega)) hj)),
           Ob.det rfl rfl rfl (fun _ a_ _ _ c => sel_ne rfl (c.ev 3 rfl rfl) (c.ev 7 rfl rfl)),
       trivial⟩ ?_
    intro a7 w7 τ7 st7 f7
    replace e0 := f7.old e0 (by kernel_rfl)
    replace e1 := f7.old e1 (by kernel_rfl)
    replace e5 := f7.old e5 (by kernel_rfl)
    replace e14 := f7.old e14 (by kernel_rfl)
    have e25 : get a7 25 = (.bool (!(selB (nth xs ((k : Int))) (nth ys ((k : Int)))))) := f7.v 8 rfl
    clear f7
    show Code.wp _ _ _ a7 w7
    refine wp_cond_split (t := !(selB (nth xs ((k : Int))) (nth ys ((k : Int))))) e25 (fun hc3 => ?_) (fun hc3 => ?_)
    · try simp only [Bool.and_eq_true, Bool.or_eq_true, decide_eq_true_eq, decide_eq_false_iff_not, Bool.not_eq_true', Bool.and_eq_false_iff, Bool.or_eq_false_iff, Bool.not_eq_false', Int.not_lt, Int.not_le, beq_iff_eq, selB] at hc3
      refine wp_seq ?_
      refine region_St (bf := [0]) (sp := [
          (det (Nw w) 4 (.bool (false)))])
        [] mixed st7 (by kernel_rfl) trivial
        ⟨Ob.det rfl rfl rfl (fun _ a_ _ _ c => r_assign rfl rfl),
         trivial⟩ ?_
      intro a8 w8 τ8 st8 f8
      replace e0 := f8.old e0 (by kernel_rfl)
      replace e1 := f8.old e1 (by kernel_rfl)
      have e4 : get a8 4 = (.bool (false)) := f8.v 0 rfl
      replace e5 := f8.old e5 (by kernel_rfl)
      replace e14 := f8.old e14 (by kernel_rfl)
      replace e25 := f8.old e25 (by kernel_rfl)
      clear f8
      show Code.wp _ _ _ a8 w8
      refine wp_ret ?_
      repeat (first | with_reducible refine then_ret ?_ | with_reducible refine block_ret ?_)
      refine ret1 (fn := Try.f13) rfl st8.defers e4 ?_
      exact ⟨congrArg _ (congrArg _ (by first | (symm; exact decide_eq_false (fun h => by subst h; omega)) | (symm; exact decide_eq_false (differ (by assumption))) | (symm; exact decide_eq_true (all_same q1 q0 q2 (by assumption))))), st8.ext0⟩
    try simp only [Bool.and_eq_true, Bool.or_eq_true, decide_eq_true_eq, decide_eq_false_iff_not, Bool.not_eq_true', Bool.and_eq_false_iff, Bool.or_eq_false_iff, Bool.not_eq_false', Int.not_lt, Int.not_le, beq_iff_eq, selB] at hc3
    refine wp_skip ?_
    show _
    show Code.wp _ _ _ a7 w7
    refine region_St (bf := [0, 1, 3]) (sp := [
        (det (Nw w) 15 (.int .i64 ((k : Int)))),
            (det (Nw w) 16 (.int .i64 ((k : Int) + 1))),
            (det (Nw w) 5 (.int .i64 ((k : Int) + 1)))])
      [] mixed st7 (by kernel_rfl) trivial
      ⟨Ob.det rfl rfl rfl (fun _ a_ _ _ c => r_move rfl (c.eo e5 (by kernel_rfl))),
           Ob.det rfl rfl rfl (fun _ a_ _ _ c => r_add rfl (c.ev 0 rfl rfl) rfl (by omega)),
           Ob.det rfl rfl rfl (fun _ a_ _ _ c => r_assign rfl (c.ev 1 rfl rfl)),
       trivial⟩ ?_
    intro a9 w9 τ9 st9 f9
    replace e0 := f9.old e0 (by kernel_rfl)
    replace e1 := f9.old e1 (by kernel_rfl)
    have e5 : get a9 5 = (.int .i64 ((k : Int) + 1)) := f9.v 2 rfl
    replace e14 := f9.old e14 (by kernel_rfl)
    replace e25 := f9.old e25 (by kernel_rfl)
    clear f9
    refine ⟨⟨k + 1, τ9, ?_, ?_, ?_, st9, (e5.trans (int_eq (by omega))), e0, e1⟩, ?_⟩
    · omega
    · omega
    · exact take_same (by omega) (by omega) q2 (by assumption)
    · simp only [m5, e5, intOf]; omega
  try simp only [Bool.and_eq_true, Bool.or_eq_true, decide_eq_true_eq, decide_eq_false_iff_not, Bool.not_eq_true', Bool.and_eq_false_iff, Bool.or_eq_false_iff, Bool.not_eq_false', Int.not_lt, Int.not_le, beq_iff_eq, selB] at hc2
  refine wp_exit ?_
  repeat (with_reducible refine then_exit ?_)
  refine exit_here ?_
  show Code.wp _ _ _ a6 w6
  refine wp_seq ?_
  refine region_St (bf := [0]) (sp := [
      (det (Nw w) 4 (.bool (true)))])
    [] mixed st6 (by kernel_rfl) trivial
    ⟨Ob.det rfl rfl rfl (fun _ a_ _ _ c => r_assign rfl rfl),
     trivial⟩ ?_
  intro a10 w10 τ10 st10 f10
  have e4 : get a10 4 = (.bool (true)) := f10.v 0 rfl
  clear f10
  show Code.wp _ _ _ a10 w10
  refine wp_ret ?_
  repeat (first | with_reducible refine then_ret ?_ | with_reducible refine block_ret ?_)
  refine ret1 (fn := Try.f13) rfl st10.defers e4 ?_
  exact ⟨congrArg _ (congrArg _ (by first | (symm; exact decide_eq_false (fun h => by subst h; omega)) | (symm; exact decide_eq_false (differ (by assumption))) | (symm; exact decide_eq_true (all_same q1 q0 q2 (by assumption))))), st10.ext0⟩

set_option maxRecDepth 100000 in
theorem moveSel_c (v u : Value) (xs : List (Int × Int)) (es : List (Int × Int × ByteArray)) (w : World) (hS : SlT SpanE w v xs) (hU : SlT EditE w u es) (hbig : xs.length ≤ 1000000000000) (hbig2 : es.length ≤ 1000000000000) : Calls Try.prog 16 #[v, u] w (fun e w' => ∃ v', e = .returned v' ∧ Ext none' w w' ∧ NewT SpanE 33 w w' v' (moveS es xs)) := by
  refine enter (n := 29) Try.func16 rfl rfl (Nat.le_of_ble_eq_true rfl) ?_
  intro a0 τ0 ha st0
  have e0 : get a0 0 = v := ha 0 _ rfl
  have e1 : get a0 1 = u := ha 1 _ rfl
  clear ha
  have hle := hS.le
  have hle2 := hU.le
  refine wp_seq ?_
  refine region_St (bf := [0]) (sp := [
      (det (Nw w) 4 (.slice none 0 0))])
    [] mixed st0 (by kernel_rfl) trivial
    ⟨Ob.det rfl rfl rfl (fun _ a_ _ _ c => r_assign rfl rfl),
     trivial⟩ ?_
  intro a1 w1 τ1 st1 f1
  replace e0 := f1.old e0 (by kernel_rfl)
  replace e1 := f1.old e1 (by kernel_rfl)
  have e4 : get a1 4 = (.slice none 0 0) := f1.v 0 rfl
  clear f1
  show Code.wp _ _ _ a1 w1
  refine wp_seq ?_
  refine region_St (bf := [0]) (sp := [
      (det (Nw w) 5 (.slice none 0 0))])
    [] mixed st1 (by kernel_rfl) trivial
    ⟨Ob.det rfl rfl rfl (fun _ a_ _ _ c => r_assign rfl rfl),
     trivial⟩ ?_
  intro a2 w2 τ2 st2 f2
  replace e0 := f2.old e0 (by kernel_rfl)
  replace e1 := f2.old e1 (by kernel_rfl)
  replace e4 := f2.old e4 (by kernel_rfl)
  have e5 : get a2 5 = (.slice none 0 0) := f2.v 0 rfl
  clear f2
  show Code.wp _ _ _ a2 w2
  refine wp_seq ?_
  refine wp_seq ?_
  refine region_St (bf := [0, 1, 0]) (sp := [
      (det (Nw w) 8 v),
        (det (Nw w) 9 (.int .i64 ((xs.length : Int)))),
        (det (Nw w) 10 (.int .i64 (0)))])
    [] mixed st2 (by kernel_rfl) trivial
    ⟨Ob.det rfl rfl rfl (fun _ a_ _ _ c => r_move rfl (c.eo e0 (by kernel_rfl))),
       Ob.det rfl rfl rfl (fun _ a_ _ _ c => r_len rfl Try.underlying22 (c.ev 0 rfl rfl) hS.sl),
       Ob.det rfl rfl rfl (fun _ a_ _ _ c => r_move rfl rfl),
     trivial⟩ ?_
  intro a3 w3 τ3 st3 f3
  replace e1 := f3.old e1 (by kernel_rfl)
  replace e4 := f3.old e4 (by kernel_rfl)
  replace e5 := f3.old e5 (by kernel_rfl)
  have e8 : get a3 8 = v := f3.v 0 rfl
  have e9 : get a3 9 = (.int .i64 ((xs.length : Int))) := f3.v 1 rfl
  have e10 : get a3 10 = (.int .i64 (0)) := f3.v 2 rfl
  clear f3
  show Code.wp _ _ _ a3 w3
  refine wp_block ?_
  refine wp_loop (fun a_ w_ => ∃ (k : Nat) (o : Value) (τ : Nat → Foot), (k ≤ xs.length) ∧
        St (Nw w) w 29 a_ w_ τ ∧
        get a_ 5 = o ∧
        get a_ 10 = (.int .i64 ((k : Int))) ∧
        get a_ 1 = u ∧
        get a_ 4 = (.slice none 0 0) ∧
        get a_ 8 = v ∧
        get a_ 9 = (.int .i64 ((xs.length : Int))) ∧
        ownR SpanE 33 ((xs.take k).map (mvS es)) (τ 0) o w_) (fun a_ _ => xs.length - (intOf (get a_ 10)).toNat) ?_ ?_
  · refine ⟨0, (.slice none 0 0), τ3, ?_, st3, e5, (e10.trans (int_eq (by omega))), e1, e4, e8, e9, ?_⟩
    · omega
    · exact ownR.nil _ _ _ _
  intro a4 w4 hI
  obtain ⟨k, o, τ4, q0, st4, e5, e10, e1, e4, e8, e9, r0⟩ := hI
  have hml := @List.length_map _ _ (xs.take k) (mvS es)
  have htl := List.length_take_le k xs
  have m10 := e10
  refine wp_seq ?_
  refine region_St (bf := [0]) (sp := [
      (det (Nw w) 11 (.bool (decide ((k : Int) < (xs.length : Int)))))])
    [(iown SpanE 33 (Nw w) o ((xs.take k).map (mvS es)))] mixed st4 (by kernel_rfl) ⟨r0, trivial⟩
    ⟨Ob.det rfl rfl rfl (fun _ a_ _ _ c => r_lss rfl (c.eo e10 (by kernel_rfl)) (c.eo e9 (by kernel_rfl))),
     trivial⟩ ?_
  intro a5 w5 τ5 st5 f5
  replace e1 := f5.old e1 (by kernel_rfl)
  replace e4 := f5.old e4 (by kernel_rfl)
  replace e5 := f5.old e5 (by kernel_rfl)
  replace e8 := f5.old e8 (by kernel_rfl)
  replace e9 := f5.old e9 (by kernel_rfl)
  replace e10 := f5.old e10 (by kernel_rfl)
  have e11 : get a5 11 = (.bool (decide ((k : Int) < (xs.length : Int)))) := f5.v 0 rfl
  replace r0 : ownR SpanE 33 ((xs.take k).map (mvS es)) (τ5 0) o w5 := f5.iown 0 rfl rfl
  clear f5
  show Code.wp _ _ _ a5 w5
  refine wp_seq ?_
  refine wp_cond_split (t := decide ((k : Int) < (xs.length : Int))) e11 (fun hc1 => ?_) (fun hc1 => ?_)
  · try simp only [Bool.and_eq_true, Bool.or_eq_true, decide_eq_true_eq, decide_eq_false_iff_not, Bool.not_eq_true', Bool.and_eq_false_iff, Bool.or_eq_false_iff, Bool.not_eq_false', Int.not_lt, Int.not_le, beq_iff_eq, selB] at hc1
    refine wp_skip ?_
    show Code.wp _ _ _ a5 w5
    refine wp_seq ?_
    refine wp_block ?_
    refine wp_seq ?_
    refine region_St (bf := [0, 1, 0, 7]) (sp := [
        (det (Nw w) 12 (.pointer (some ((ptrOf v).add (((k : Int) : Int).toNat * 2))))),
            (det (Nw w) 13 (.agg #[(.int .i64 ((nth xs ((k : Int))).1)), (.int .i64 ((nth xs ((k : Int))).2))])),
            (box 33 (Nw w) 1 7 [(.int .i64 (0)), (.int .i64 (0))]),
            (box 33 (Nw w) 1 7 [(.int .i64 ((nth xs ((k : Int))).1)), (.int .i64 ((nth xs ((k : Int))).2))])])
      [(iown SpanE 33 (Nw w) o ((xs.take k).map (mvS es)))] mixed st5 (by kernel_rfl) ⟨r0, trivial⟩
      ⟨Ob.det rfl rfl rfl (fun _ a_ _ _ c => r_indexAddr rfl Try.underlying22 Try.sizeOf33 (c.eo e8 (by kernel_rfl)) hS.sl (c.eo e10 (by kernel_rfl)) (by first | omega | (simp only [List.length_map] at *; omega)) (by first | omega | (simp only [List.length_map] at *; omega))),
           Ob.det rfl rfl rfl (fun _ a_ _ _ c => r_loadN (vs := [(.int .i64 ((nth xs ((k : Int))).1)), (.int .i64 ((nth xs ((k : Int))).2))]) rfl Try.isAgg33 Try.sizeOf33 (c.ev 0 rfl rfl) rfl (fun _ _ hj => ((hS.at (st5.ext.trans c.J.ext))).elem (nth_some (by first | omega | (simp only [List.length_map] at *; omega)) (by first | omega | (simp only [List.length_map] at *; omega))) hj)),
           Ob.alloc rfl rfl rfl rfl Try.zeroValue33 rfl,
           Ob.storeBox (off := 0) (v := (.agg #[(.int .i64 ((nth xs ((k : Int))).1)), (.int .i64 ((nth xs ((k : Int))).2))])) rfl rfl rfl rfl Try.sizeOf33 (Nat.le_of_ble_eq_true rfl) (by simp [Value.cells, Value.oneCell']) rfl (fun _ _ _ _ c => ⟨c.rbox 2 rfl rfl (by kernel_rfl), (c.rbox 2 rfl rfl (by kernel_rfl)).ptr, (c.ev 1 rfl rfl)⟩),
       trivial⟩ ?_
    intro a6 w6 τ6 st6 f6
    obtain ⟨b6x7, e7⟩ : ∃ b, get a6 7 = b := ⟨_, rfl⟩
    replace e1 := f6.old e1 (by kernel_rfl)
    replace e4 := f6.old e4 (by kernel_rfl)
    replace e5 := f6.old e5 (by kernel_rfl)
    replace e8 := f6.old e8 (by kernel_rfl)
    replace e9 := f6.old e9 (by kernel_rfl)
    replace e10 := f6.old e10 (by kernel_rfl)
    replace e11 := f6.old e11 (by kernel_rfl)
    replace r0 : ownR SpanE 33 ((xs.take k).map (mvS es)) (τ6 0) o w6 := f6.iown 0 rfl rfl
    have r1 : boxR 33 [(.int .i64 ((nth xs ((k : Int))).1)), (.int .i64 ((nth xs ((k : Int))).2))] (τ6 1) b6x7 w6 := f6.rbox 3 rfl rfl e7
    clear f6
    show Code.wp _ _ _ a6 w6
    refine region_St (bf := [0, 0, 2, 0, 14, 0, 32, 0, 254, 510, 1022, 2047, 4095]) (sp := [
        (det (Nw w) 14 o),
            (det (Nw w) 15 (.pointer (some ((ptrOf b6x7).add 0)))),
            (det (Nw w) 16 (.int .i64 ((nth xs ((k : Int))).1))),
            (det (Nw w) 17 u),
            (det (Nw w) 18 (.int .i64 (moveW ((nth xs ((k : Int))).1) true es))),
            (det (Nw w) 19 (.pointer (some ((ptrOf b6x7).add 1)))),
            (det (Nw w) 20 (.int .i64 ((nth xs ((k : Int))).2))),
            (det (Nw w) 21 u),
            (det (Nw w) 22 (.int .i64 (moveW ((nth xs ((k : Int))).2) true es))),
            (det (Nw w) 23 (.agg #[(.int .i64 (moveW ((nth xs ((k : Int))).1) true es)), (.int .i64 (moveW ((nth xs ((k : Int))).2) true es))])),
            (own SpanE 33 (Nw w) 2 24 ([(moveW ((nth xs ((k : Int))).1) true es, moveW ((nth xs ((k : Int))).2) true es)])),
            (own SpanE 33 (Nw w) 0 25 (((xs.take k).map (mvS es)) ++ ([(moveW ((nth xs ((k : Int))).1) true es, moveW ((nth xs ((k : Int))).2) true es)]))),
            (own SpanE 33 (Nw w) 0 5 (((xs.take k).map (mvS es)) ++ ([(moveW ((nth xs ((k : Int))).1) true es, moveW ((nth xs ((k : Int))).2) true es)])))])
      [(iown SpanE 33 (Nw w) o ((xs.take k).map (mvS es))), (ibox 33 (Nw w) b6x7 [(.int .i64 ((nth xs ((k : Int))).1)), (.int .i64 ((nth xs ((k : Int))).2))])] mixed st6 (by kernel_rfl) ⟨r0, r1, trivial⟩
      ⟨Ob.det rfl rfl rfl (fun _ a_ _ _ c => r_move rfl (c.eo e5 (by kernel_rfl))),
           Ob.det rfl rfl rfl (fun _ a_ _ _ c => r_fieldAddr rfl Try.underlying33 rfl rfl Try.sizeOf3 ((c.eo e7 (by kernel_rfl)).trans r1.ptr)),
           Ob.det rfl rfl rfl (fun _ a_ _ _ c => r_load1 rfl Try.isAgg3 (c.ev 1 rfl rfl) ((c.ibox 1 rfl rfl (by kernel_rfl)).cell (j := 0) rfl)),
           Ob.det rfl rfl rfl (fun _ a_ _ _ c => r_move rfl (c.eo e1 (by kernel_rfl))),
           Ob.call rfl rfl rfl (fun _ a_ _ _ c => ⟨_, _, (e_call3 rfl rfl Try.call23 (c.ev 2 rfl rfl) rfl (c.ev 3 rfl rfl)), moveE_c ((nth xs ((k : Int))).1) true u es _ (hU.at (st6.ext.trans c.J.ext)) (by first | omega | (simp only [List.length_map] at *; omega))⟩),
           Ob.det rfl rfl rfl (fun _ a_ _ _ c => r_fieldAddr rfl Try.underlying33 rfl rfl Try.sizeOf3 ((c.eo e7 (by kernel_rfl)).trans r1.ptr)),
           Ob.det rfl rfl rfl (fun _ a_ _ _ c => r_load1 rfl Try.isAgg3 (c.ev 5 rfl rfl) ((c.ibox 1 rfl rfl (by kernel_rfl)).cell (j := 1) rfl)),
           Ob.det rfl rfl rfl (fun _ a_ _ _ c => r_move rfl (c.eo e1 (by kernel_rfl))),
           Ob.call rfl rfl rfl (fun _ a_ _ _ c => ⟨_, _, (e_call3 rfl rfl Try.call23 (c.ev 6 rfl rfl) rfl (c.ev 7 rfl rfl)), moveE_c ((nth xs ((k : Int))).2) true u es _ (hU.at (st6.ext.trans c.J.ext)) (by first | omega | (simp only [List.length_map] at *; omega))⟩),
           Ob.det rfl rfl rfl (fun _ a_ _ _ c => r_build (cells := #[(.int .i64 (moveW ((nth xs ((k : Int))).1) true es)), (.int .i64 (moveW ((nth xs ((k : Int))).2) true es))]) rfl Try.underlying33 Try.zeroValue33 (pl := #[(0, 1), (1, 1)]) (fun w_ => by simp [Try.sizeOf3]) (by simp only [List.map_toArray, List.map_cons, List.map_nil, (show a_.eval (.tmp 18) = (.int .i64 (moveW ((nth xs ((k : Int))).1) true es)) from (c.ev 4 rfl rfl)), (show a_.eval (.tmp 22) = (.int .i64 (moveW ((nth xs ((k : Int))).2) true es)) from (c.ev 8 rfl rfl))]; rfl)),
           Ob.buildSlice (cells := #[(.int .i64 (moveW ((nth xs ((k : Int))).1) true es)), (.int .i64 (moveW ((nth xs ((k : Int))).2) true es))]) rfl rfl rfl rfl Try.underlying22 Try.sizeOf33 Try.zeroValue33 rfl (by decide) (by decide) (fun _ a_ _ _ c => by simp only [List.map_toArray, List.map_cons, List.map_nil, (show a_.eval (.tmp 23) = (.agg #[(.int .i64 (moveW ((nth xs ((k : Int))).1) true es)), (.int .i64 (moveW ((nth xs ((k : Int))).2) true es))]) from (c.ev 9 rfl rfl))]; kernel_rfl) rfl,
           Ob.append (t0 := 5) rfl rfl rfl rfl Try.underlying22 (i := Try.t33) rfl rfl rfl rfl (by simp only [maxLen]; (try simp); omega) (by show _ * 16 ≤ _; (try simp); omega) (fun _ _ _ _ c => ⟨by rw [(show get _ 5 = o from c.old e5 (by kernel_rfl))]; exact c.iown 0 rfl rfl (by kernel_rfl), (c.ev 0 rfl rfl).trans (show o = get _ 5 from (c.old e5 (by kernel_rfl)).symm), ⟨_, rfl, (c.rown 10 rfl rfl (by kernel_rfl)).1.sl⟩⟩),
           Ob.moveT (t0 := 25) rfl rfl rfl rfl rfl (.inr rfl) (fun _ _ _ _ c => ⟨c.rown 11 rfl rfl (by kernel_rfl), rfl⟩),
       trivial⟩ ?_
    intro a7 w7 τ7 st7 f7
    obtain ⟨b7x24, e24⟩ : ∃ b, get a7 24 = b := ⟨_, rfl⟩
    obtain ⟨b7x5, e5⟩ : ∃ b, get a7 5 = b := ⟨_, rfl⟩
    replace e1 := f7.old e1 (by kernel_rfl)
    replace e4 := f7.old e4 (by kernel_rfl)
    replace e7 := f7.old e7 (by kernel_rfl)
    replace e8 := f7.old e8 (by kernel_rfl)
    replace e9 := f7.old e9 (by kernel_rfl)
    replace e10 := f7.old e10 (by kernel_rfl)
    replace e11 := f7.old e11 (by kernel_rfl)
    have r0 : ownR SpanE 33 (((xs.take k).map (mvS es)) ++ ([(moveW ((nth xs ((k : Int))).1) true es, moveW ((nth xs ((k : Int))).2) true es)])) (τ7 0) b7x5 w7 := f7.rown 12 rfl rfl e5
    replace r1 : boxR 33 [(.int .i64 ((nth xs ((k : Int))).1)), (.int .i64 ((nth xs ((k : Int))).2))] (τ7 1) b6x7 w7 := f7.ibox 1 rfl rfl
    have r2 : ownR SpanE 33 ([(moveW ((nth xs ((k : Int))).1) true es, moveW ((nth xs ((k : Int))).2) true es)]) (τ7 2) b7x24 w7 := f7.rown 10 rfl rfl e24
    clear f7
    show _
    show Code.wp _ _ _ a7 w7
    refine region_St (bf := [0, 1]) (sp := [
        (det (Nw w) 26 (.int .i64 ((k : Int) + 1))),
            (det (Nw w) 10 (.int .i64 ((k : Int) + 1)))])
      [(iown SpanE 33 (Nw w) b7x5 (((xs.take k).map (mvS es)) ++ ([(moveW ((nth xs ((k : Int))).1) true es, moveW ((nth xs ((k : Int))).2) true es)]))), (ibox 33 (Nw w) b6x7 [(.int .i64 ((nth xs ((k : Int))).1)), (.int .i64 ((nth xs ((k : Int))).2))]), (iown SpanE 33 (Nw w) b7x24 ([(moveW ((nth xs ((k : Int))).1) true es, moveW ((nth xs ((k : Int))).2) true es)]))] mixed st7 (by kernel_rfl) ⟨r0, r1, r2, trivial⟩
      ⟨Ob.det rfl rfl rfl (fun _ a_ _ _ c => r_add rfl (c.eo e10 (by kernel_rfl)) rfl (by first | omega | (simp only [List.length_map] at *; omega))),
           Ob.det rfl rfl rfl (fun _ a_ _ _ c => r_move rfl (c.ev 0 rfl rfl)),
       trivial⟩ ?_
    intro a8 w8 τ8 st8 f8
    replace e1 := f8.old e1 (by kernel_rfl)
    replace e4 := f8.old e4 (by kernel_rfl)
    replace e5 := f8.old e5 (by kernel_rfl)
    replace e7 := f8.old e7 (by kernel_rfl)
    replace e8 := f8.old e8 (by kernel_rfl)
    replace e9 := f8.old e9 (by kernel_rfl)
    have e10 : get a8 10 = (.int .i64 ((k : Int) + 1)) := f8.v 1 rfl
    replace e11 := f8.old e11 (by kernel_rfl)
    replace r0 : ownR SpanE 33 (((xs.take k).map (mvS es)) ++ ([(moveW ((nth xs ((k : Int))).1) true es, moveW ((nth xs ((k : Int))).2) true es)])) (τ8 0) b7x5 w8 := f8.iown 0 rfl rfl
    replace r1 : boxR 33 [(.int .i64 ((nth xs ((k : Int))).1)), (.int .i64 ((nth xs ((k : Int))).2))] (τ8 1) b6x7 w8 := f8.ibox 1 rfl rfl
    replace r2 : ownR SpanE 33 ([(moveW ((nth xs ((k : Int))).1) true es, moveW ((nth xs ((k : Int))).2) true es)]) (τ8 2) b7x24 w8 := f8.iown 2 rfl rfl
    clear f8
    refine ⟨⟨k + 1, b7x5, τ8, ?_, st8, e5, (e10.trans (int_eq (by omega))), e1, e4, e8, e9, ?_⟩, ?_⟩
    · omega
    · exact r0.cast (by exact map_succ (by omega))
    · simp only [m10, e10, intOf]; omega
  try simp only [Bool.and_eq_true, Bool.or_eq_true, decide_eq_true_eq, decide_eq_false_iff_not, Bool.not_eq_true', Bool.and_eq_false_iff, Bool.or_eq_false_iff, Bool.not_eq_false', Int.not_lt, Int.not_le, beq_iff_eq, selB] at hc1
  refine wp_exit ?_
  repeat (with_reducible refine then_exit ?_)
  refine exit_here ?_
  show Code.wp _ _ _ a5 w5
  refine wp_seq ?_
  refine region_St (bf := [0, 1, 3]) (sp := [
      (det (Nw w) 27 o),
        (own SpanE 33 (Nw w) 1 28 (ordF ((xs.take k).map (mvS es)))),
        (own SpanE 33 (Nw w) 1 4 (ordF ((xs.take k).map (mvS es))))])
    [(iown SpanE 33 (Nw w) o ((xs.take k).map (mvS es)))] mixed st5 (by kernel_rfl) ⟨r0, trivial⟩
    ⟨Ob.det rfl rfl rfl (fun _ a_ _ _ c => r_move rfl (c.eo e5 (by kernel_rfl))),
       Ob.callOwn rfl rfl rfl (fun _ a_ _ _ c => ⟨_, _, (e_call1 rfl rfl Try.call19 (c.ev 0 rfl rfl)), order_c o ((xs.take k).map (mvS es)) _ (c.iown 0 rfl rfl (by kernel_rfl)).1.sl (by first | omega | (simp only [List.length_map] at *; omega))⟩),
       Ob.moveT (t0 := 28) rfl rfl rfl rfl rfl (.inr rfl) (fun _ _ _ _ c => ⟨c.rown 1 rfl rfl (by kernel_rfl), rfl⟩),
     trivial⟩ ?_
  intro a9 w9 τ9 st9 f9
  obtain ⟨b9x4, e4⟩ : ∃ b, get a9 4 = b := ⟨_, rfl⟩
  have r1 : ownR SpanE 33 (ordF ((xs.take k).map (mvS es))) (τ9 1) b9x4 w9 := f9.rown 2 rfl rfl e4
  clear f9
  show Code.wp _ _ _ a9 w9
  refine wp_ret ?_
  repeat (first | with_reducible refine then_ret ?_ | with_reducible refine block_ret ?_)
  refine ret1 (fn := Try.f16) rfl st9.defers e4 ?_
  replace r1 := r1.cast (show moveS es xs = _ from by rw [moveS, List.take_of_length_le (by omega)])
  exact ⟨_, rfl, st9.ext0, r1.1, fun g_ h_ => (st9.bnd _ g_ (r1.2 g_ h_)).1⟩

set_option maxRecDepth 100000 in
theorem awake_c  (w : World) : Calls Try.prog 9 #[] w (fun e w' => e = .returned (.bool (true)) ∧ Ext none' w w') := by
  refine enter (n := 43) Try.func9 rfl rfl (Nat.le_of_ble_eq_true rfl) ?_
  intro a0 τ0 ha st0
  clear ha
  refine wp_seq ?_
  refine region_St (bf := [0]) (sp := [
      (det (Nw w) 0 (.bool (false)))])
    [] mixed st0 (by kernel_rfl) trivial
    ⟨Ob.det rfl rfl rfl (fun _ a_ _ _ c => r_assign rfl rfl),
     trivial⟩ ?_
  intro a1 w1 τ1 st1 f1
  have e0 : get a1 0 = (.bool (false)) := f1.v 0 rfl
  clear f1
  show Code.wp _ _ _ a1 w1
  refine wp_seq ?_
  refine region_St (bf := [0, 0, 3, 7, 15, 31, 31, 63, 255]) (sp := [
      (det (Nw w) 5 (.agg #[(.int .i64 (5)), (.int .i64 (3))])),
        (det (Nw w) 6 (.agg #[(.int .i64 (5)), (.int .i64 (7))])),
        (own SpanE 33 (Nw w) 0 7 ([(5, 3), (5, 7)])),
        (tup SpanE 33 (Nw w) 1 8 (normF 9 ([(5, 3), (5, 7)])) (.int .i64 (normE 9 ([(5, 3), (5, 7)])))),
        (tup SpanE 33 (Nw w) 1 4 (normF 9 ([(5, 3), (5, 7)])) (.int .i64 (normE 9 ([(5, 3), (5, 7)])))),
        (own SpanE 33 (Nw w) 1 9 (normF 9 ([(5, 3), (5, 7)]))),
        (det (Nw w) 10 (.int .i64 (normE 9 ([(5, 3), (5, 7)])))),
        (own SpanE 33 (Nw w) 1 1 (normF 9 ([(5, 3), (5, 7)]))),
        (det (Nw w) 2 (.int .i64 (normE 9 ([(5, 3), (5, 7)]))))])
    [] mixed st1 (by kernel_rfl) trivial
    ⟨Ob.det rfl rfl rfl (fun _ a_ _ _ c => r_build (cells := #[(.int .i64 (5)), (.int .i64 (3))]) rfl Try.underlying33 Try.zeroValue33 (pl := #[(0, 1), (1, 1)]) (fun w_ => by simp [Try.sizeOf3]) (by simp only [List.map_toArray, List.map_cons, List.map_nil]; rfl)),
       Ob.det rfl rfl rfl (fun _ a_ _ _ c => r_build (cells := #[(.int .i64 (5)), (.int .i64 (7))]) rfl Try.underlying33 Try.zeroValue33 (pl := #[(0, 1), (1, 1)]) (fun w_ => by simp [Try.sizeOf3]) (by simp only [List.map_toArray, List.map_cons, List.map_nil]; rfl)),
       Ob.buildSlice (cells := #[(.int .i64 (5)), (.int .i64 (3)), (.int .i64 (5)), (.int .i64 (7))]) rfl rfl rfl rfl Try.underlying22 Try.sizeOf33 Try.zeroValue33 rfl (by decide) (by decide) (fun _ a_ _ _ c => by simp only [List.map_toArray, List.map_cons, List.map_nil, (show a_.eval (.tmp 5) = (.agg #[(.int .i64 (5)), (.int .i64 (3))]) from (c.ev 0 rfl rfl)), (show a_.eval (.tmp 6) = (.agg #[(.int .i64 (5)), (.int .i64 (7))]) from (c.ev 1 rfl rfl))]; kernel_rfl) rfl,
       Ob.callTup rfl rfl rfl (fun _ a_ _ _ c => ⟨_, _, (e_call2 rfl rfl Try.call10 rfl (eval_tmp _ 7)), norm_c 9 _ ([(5, 3), (5, 7)]) _ (c.rown 2 rfl rfl (by kernel_rfl)).1.sl⟩),
       Ob.moveT (t0 := 8) rfl rfl rfl rfl rfl (.inl rfl) (fun _ _ _ _ c => ⟨c.rtup 3 rfl rfl (by kernel_rfl), rfl⟩),
       Ob.part0 (t0 := 4) (k := (.int .i64 (normE 9 ([(5, 3), (5, 7)])))) rfl rfl rfl rfl (fun _ _ _ _ c => c.rtup 4 rfl rfl (by kernel_rfl)),
       Ob.det rfl rfl rfl (fun _ a_ _ _ c => c.part1 4 rfl rfl rfl),
       Ob.moveT (t0 := 9) rfl rfl rfl rfl rfl (.inr rfl) (fun _ _ _ _ c => ⟨c.rown 5 rfl rfl (by kernel_rfl), rfl⟩),
       Ob.det rfl rfl rfl (fun _ a_ _ _ c => r_assign rfl (c.ev 6 rfl rfl)),
     trivial⟩ ?_
  intro a2 w2 τ2 st2 f2
  obtain ⟨b2x7, e7⟩ : ∃ b, get a2 7 = b := ⟨_, rfl⟩
  obtain ⟨b2x1, e1⟩ : ∃ b, get a2 1 = b := ⟨_, rfl⟩
  replace e0 := f2.old e0 (by kernel_rfl)
  have e2 : get a2 2 = (.int .i64 (normE 9 ([(5, 3), (5, 7)]))) := f2.v 8 rfl
  have r1 : ownR SpanE 33 (normF 9 ([(5, 3), (5, 7)])) (τ2 1) b2x1 w2 := f2.rown 7 rfl rfl e1
  clear f2
  replace r1 := r1.cast (show [((7 : Int), (3 : Int))] = normF 9 ([(5, 3), (5, 7)]) from by decide +kernel)
  replace e2 := e2.trans (congrArg (Value.int .i64) (show normE 9 ([(5, 3), (5, 7)]) = (0 : Int) from by decide +kernel))
  show Code.wp _ _ _ a2 w2
  refine wp_seq ?_
  refine region_St (bf := [0, 1, 0, 4, 12, 31, 63]) (sp := [
      (det (Nw w) 11 (.agg #[(.int .i64 (2)), (.int .i64 (2))])),
        (own SpanE 33 (Nw w) 0 12 ([(2, 2)])),
        (det (Nw w) 13 (.agg #[(.int .i64 (2)), (.int .i64 (2))])),
        (det (Nw w) 14 (.agg #[(.int .i64 (2)), (.int .i64 (2)), (.string (⟨#[120, 121]⟩))])),
        (own EditE 42 (Nw w) 2 15 ([(2, 2, ⟨#[120, 121]⟩)])),
        (own SpanE 33 (Nw w) 3 16 (moveS ([(2, 2, ⟨#[120, 121]⟩)]) ([(2, 2)]))),
        (own SpanE 33 (Nw w) 3 3 (moveS ([(2, 2, ⟨#[120, 121]⟩)]) ([(2, 2)])))])
    [(Ini.any (Nw w)), (iown SpanE 33 (Nw w) b2x1 ([((7 : Int), (3 : Int))]))] mixed st2 (by kernel_rfl) ⟨trivial, r1, trivial⟩
    ⟨Ob.det rfl rfl rfl (fun _ a_ _ _ c => r_build (cells := #[(.int .i64 (2)), (.int .i64 (2))]) rfl Try.underlying33 Try.zeroValue33 (pl := #[(0, 1), (1, 1)]) (fun w_ => by simp [Try.sizeOf3]) (by simp only [List.map_toArray, List.map_cons, List.map_nil]; rfl)),
       Ob.buildSlice (cells := #[(.int .i64 (2)), (.int .i64 (2))]) rfl rfl rfl rfl Try.underlying22 Try.sizeOf33 Try.zeroValue33 rfl (by decide) (by decide) (fun _ a_ _ _ c => by simp only [List.map_toArray, List.map_cons, List.map_nil, (show a_.eval (.tmp 11) = (.agg #[(.int .i64 (2)), (.int .i64 (2))]) from (c.ev 0 rfl rfl))]; kernel_rfl) rfl,
       Ob.det rfl rfl rfl (fun _ a_ _ _ c => r_build (cells := #[(.int .i64 (2)), (.int .i64 (2))]) rfl Try.underlying39 Try.zeroValue39 (pl := #[(0, 1), (1, 1)]) (fun w_ => by simp [Try.sizeOf3]) (by simp only [List.map_toArray, List.map_cons, List.map_nil]; rfl)),
       Ob.det rfl rfl rfl (fun _ a_ _ _ c => r_build (cells := #[(.int .i64 (2)), (.int .i64 (2)), (.string (⟨#[120, 121]⟩))]) rfl Try.underlying42 Try.zeroValue42 (pl := #[(0, 2), (2, 1)]) (fun w_ => by simp [Try.sizeOf39, Try.sizeOf9]) (by simp only [List.map_toArray, List.map_cons, List.map_nil, (show a_.eval (.tmp 13) = (.agg #[(.int .i64 (2)), (.int .i64 (2))]) from (c.ev 2 rfl rfl))]; rfl)),
       Ob.buildSlice (cells := #[(.int .i64 (2)), (.int .i64 (2)), (.string (⟨#[120, 121]⟩))]) rfl rfl rfl rfl Try.underlying37 Try.sizeOf42 Try.zeroValue42 rfl (by decide) (by decide) (fun _ a_ _ _ c => by simp only [List.map_toArray, List.map_cons, List.map_nil, (show a_.eval (.tmp 14) = (.agg #[(.int .i64 (2)), (.int .i64 (2)), (.string (⟨#[120, 121]⟩))]) from (c.ev 3 rfl rfl))]; kernel_rfl) rfl,
       Ob.callOwn rfl rfl rfl (fun _ a_ _ _ c => ⟨_, _, (e_call2 rfl rfl Try.call16 (eval_tmp _ 12) (eval_tmp _ 15)), moveSel_c _ _ ([(2, 2)]) ([(2, 2, ⟨#[120, 121]⟩)]) _ (c.rown 1 rfl rfl (by kernel_rfl)).1.sl (c.rown 4 rfl rfl (by kernel_rfl)).1.sl (by first | omega | (simp only [List.length_cons, List.length_nil]; omega)) (by first | omega | (simp only [List.length_cons, List.length_nil]; omega))⟩),
       Ob.moveT (t0 := 16) rfl rfl rfl rfl rfl (.inr rfl) (fun _ _ _ _ c => ⟨c.rown 5 rfl rfl (by kernel_rfl), rfl⟩),
     trivial⟩ ?_
  intro a3 w3 τ3 st3 f3
  obtain ⟨b3x12, e12⟩ : ∃ b, get a3 12 = b := ⟨_, rfl⟩
  obtain ⟨b3x15, e15⟩ : ∃ b, get a3 15 = b := ⟨_, rfl⟩
  obtain ⟨b3x3, e3⟩ : ∃ b, get a3 3 = b := ⟨_, rfl⟩
  replace e0 := f3.old e0 (by kernel_rfl)
  replace e1 := f3.old e1 (by kernel_rfl)
  replace e2 := f3.old e2 (by kernel_rfl)
  replace r1 : ownR SpanE 33 ([((7 : Int), (3 : Int))]) (τ3 1) b2x1 w3 := f3.iown 1 rfl rfl
  have r3 : ownR SpanE 33 (moveS ([(2, 2, ⟨#[120, 121]⟩)]) ([(2, 2)])) (τ3 3) b3x3 w3 := f3.rown 6 rfl rfl e3
  clear f3
  replace r3 := r3.cast (show [((4 : Int), (4 : Int))] = moveS ([(2, 2, ⟨#[120, 121]⟩)]) ([(2, 2)]) from by decide +kernel)
  show Code.wp _ _ _ a3 w3
  refine wp_seq ?_
  refine region_St (bf := [0, 1, 3, 7, 15, 31, 63, 127, 255, 511, 1023, 255, 4095, 8191, 16383, 32767, 65535, 131071, 262143, 524287, 1048575, 2097151, 4194303, 1048575, 16777215, 33554431, 67108863]) (sp := [
      (det (Nw w) 17 (.int .i64 (0))),
        (det (Nw w) 18 (.bool (true))),
        (det (Nw w) 19 (.bool (true))),
        (det (Nw w) 20 b2x1),
        (det (Nw w) 21 (.int .i64 ((([((7 : Int), (3 : Int))]).length : Int)))),
        (det (Nw w) 22 (.bool (true))),
        (det (Nw w) 23 (.bool (true))),
        (det (Nw w) 24 (.bool (true))),
        (det (Nw w) 25 b2x1),
        (det (Nw w) 26 (.pointer (some ((ptrOf b2x1).add ((0 : Int).toNat * 2))))),
        (det (Nw w) 27 (.agg #[(.int .i64 ((nth ([((7 : Int), (3 : Int))]) (0)).1)), (.int .i64 ((nth ([((7 : Int), (3 : Int))]) (0)).2))])),
        (det (Nw w) 28 (.agg #[(.int .i64 (7)), (.int .i64 (3))])),
        (det (Nw w) 29 (.bool (true))),
        (det (Nw w) 30 (.bool (true))),
        (det (Nw w) 31 (.bool (true))),
        (det (Nw w) 32 b3x3),
        (det (Nw w) 33 (.int .i64 ((([((4 : Int), (4 : Int))]).length : Int)))),
        (det (Nw w) 34 (.bool (true))),
        (det (Nw w) 35 (.bool (true))),
        (det (Nw w) 36 (.bool (true))),
        (det (Nw w) 37 b3x3),
        (det (Nw w) 38 (.pointer (some ((ptrOf b3x3).add ((0 : Int).toNat * 2))))),
        (det (Nw w) 39 (.agg #[(.int .i64 ((nth ([((4 : Int), (4 : Int))]) (0)).1)), (.int .i64 ((nth ([((4 : Int), (4 : Int))]) (0)).2))])),
        (det (Nw w) 40 (.agg #[(.int .i64 (4)), (.int .i64 (4))])),
        (det (Nw w) 41 (.bool (true))),
        (det (Nw w) 42 (.bool (true))),
        (det (Nw w) 0 (.bool (true)))])
    [(Ini.any (Nw w)), (iown SpanE 33 (Nw w) b2x1 ([((7 : Int), (3 : Int))])), (Ini.any (Nw w)), (iown SpanE 33 (Nw w) b3x3 ([((4 : Int), (4 : Int))]))] mixed st3 (by kernel_rfl) ⟨trivial, r1, trivial, r3, trivial⟩
    ⟨Ob.det rfl rfl rfl (fun _ a_ _ _ c => r_move rfl (c.eo e2 (by kernel_rfl))),
       Ob.det rfl rfl rfl (fun _ a_ _ _ c => Runs.isB (b := decide (0 = 0)) (r_eql rfl (c.ev 0 rfl rfl) rfl) (by decide +kernel)),
       Ob.det rfl rfl rfl (fun _ a_ _ _ c => r_move rfl (c.ev 1 rfl rfl)),
       Ob.live (gi := 2) (tg := 19) rfl rfl rfl rfl (Ob.det rfl rfl rfl (fun _ a_ _ _ c => r_move rfl (c.eo e1 (by kernel_rfl)))),
       Ob.live (gi := 2) (tg := 19) rfl rfl rfl rfl (Ob.det rfl rfl rfl (fun _ a_ _ _ c => r_len rfl Try.underlying22 (c.ev 3 rfl rfl) r1.isSl)),
       Ob.live (gi := 2) (tg := 19) rfl rfl rfl rfl (Ob.det rfl rfl rfl (fun _ a_ _ _ c => Runs.isB (b := decide ((([((7 : Int), (3 : Int))]).length : Int) = 1)) (r_eql rfl (c.ev 4 rfl rfl) rfl) (by decide +kernel))),
       Ob.det rfl rfl rfl (fun _ a_ _ _ c => r_pick rfl (c.ev 2 rfl rfl) (fun _ => (c.ev 5 rfl rfl)) (fun h => by cases h)),
       Ob.det rfl rfl rfl (fun _ a_ _ _ c => r_move rfl (c.ev 6 rfl rfl)),
       Ob.live (gi := 7) (tg := 24) rfl rfl rfl rfl (Ob.det rfl rfl rfl (fun _ a_ _ _ c => r_move rfl (c.eo e1 (by kernel_rfl)))),
       Ob.live (gi := 7) (tg := 24) rfl rfl rfl rfl (Ob.det rfl rfl rfl (fun _ a_ _ _ c => r_indexAddr rfl Try.underlying22 Try.sizeOf33 (c.ev 8 rfl rfl) r1.isSl rfl (by first | omega | (simp only [List.length_cons, List.length_nil]; omega)) (by first | omega | (simp only [List.length_cons, List.length_nil]; omega)))),
       Ob.live (gi := 7) (tg := 24) rfl rfl rfl rfl (Ob.det rfl rfl rfl (fun _ a_ _ _ c => r_loadN (vs := [(.int .i64 ((nth ([((7 : Int), (3 : Int))]) (0)).1)), (.int .i64 ((nth ([((7 : Int), (3 : Int))]) (0)).2))]) rfl Try.isAgg33 Try.sizeOf33 (c.ev 9 rfl rfl) rfl (fun _ _ hj => ((c.iown 1 rfl rfl (by kernel_rfl)).1.sl).elem (nth_some (by first | omega | (simp only [List.length_cons, List.length_nil]; omega)) (by first | omega | (simp only [List.length_cons, List.length_nil]; omega))) hj))),
       Ob.live (gi := 7) (tg := 24) rfl rfl rfl rfl (Ob.det rfl rfl rfl (fun _ a_ _ _ c => r_build (cells := #[(.int .i64 (7)), (.int .i64 (3))]) rfl Try.underlying33 Try.zeroValue33 (pl := #[(0, 1), (1, 1)]) (fun w_ => by simp [Try.sizeOf3]) (by simp only [List.map_toArray, List.map_cons, List.map_nil]; rfl))),
       Ob.live (gi := 7) (tg := 24) rfl rfl rfl rfl (Ob.det rfl rfl rfl (fun _ a_ _ _ c => Runs.isB (b := selB (nth ([((7 : Int), (3 : Int))]) (0)) (7, 3)) (sel_eq rfl (c.ev 10 rfl rfl) (c.ev 11 rfl rfl)) (by decide +kernel))),
       Ob.det rfl rfl rfl (fun _ a_ _ _ c => r_pick rfl (c.ev 7 rfl rfl) (fun _ => (c.ev 12 rfl rfl)) (fun h => by cases h)),
       Ob.det rfl rfl rfl (fun _ a_ _ _ c => r_move rfl (c.ev 13 rfl rfl)),
       Ob.live (gi := 14) (tg := 31) rfl rfl rfl rfl (Ob.det rfl rfl rfl (fun _ a_ _ _ c => r_move rfl (c.eo e3 (by kernel_rfl)))),
       Ob.live (gi := 14) (tg := 31) rfl rfl rfl rfl (Ob.det rfl rfl rfl (fun _ a_ _ _ c => r_len rfl Try.underlying22 (c.ev 15 rfl rfl) r3.isSl)),
       Ob.live (gi := 14) (tg := 31) rfl rfl rfl rfl (Ob.det rfl rfl rfl (fun _ a_ _ _ c => Runs.isB (b := decide ((([((4 : Int), (4 : Int))]).length : Int) = 1)) (r_eql rfl (c.ev 16 rfl rfl) rfl) (by decide +kernel))),
       Ob.det rfl rfl rfl (fun _ a_ _ _ c => r_pick rfl (c.ev 14 rfl rfl) (fun _ => (c.ev 17 rfl rfl)) (fun h => by cases h)),
       Ob.det rfl rfl rfl (fun _ a_ _ _ c => r_move rfl (c.ev 18 rfl rfl)),
       Ob.live (gi := 19) (tg := 36) rfl rfl rfl rfl (Ob.det rfl rfl rfl (fun _ a_ _ _ c => r_move rfl (c.eo e3 (by kernel_rfl)))),
       Ob.live (gi := 19) (tg := 36) rfl rfl rfl rfl (Ob.det rfl rfl rfl (fun _ a_ _ _ c => r_indexAddr rfl Try.underlying22 Try.sizeOf33 (c.ev 20 rfl rfl) r3.isSl rfl (by first | omega | (simp only [List.length_cons, List.length_nil]; omega)) (by first | omega | (simp only [List.length_cons, List.length_nil]; omega)))),
       Ob.live (gi := 19) (tg := 36) rfl rfl rfl rfl (Ob.det rfl rfl rfl (fun _ a_ _ _ c => r_loadN (vs := [(.int .i64 ((nth ([((4 : Int), (4 : Int))]) (0)).1)), (.int .i64 ((nth ([((4 : Int), (4 : Int))]) (0)).2))]) rfl Try.isAgg33 Try.sizeOf33 (c.ev 21 rfl rfl) rfl (fun _ _ hj => ((c.iown 3 rfl rfl (by kernel_rfl)).1.sl).elem (nth_some (by first | omega | (simp only [List.length_cons, List.length_nil]; omega)) (by first | omega | (simp only [List.length_cons, List.length_nil]; omega))) hj))),
       Ob.live (gi := 19) (tg := 36) rfl rfl rfl rfl (Ob.det rfl rfl rfl (fun _ a_ _ _ c => r_build (cells := #[(.int .i64 (4)), (.int .i64 (4))]) rfl Try.underlying33 Try.zeroValue33 (pl := #[(0, 1), (1, 1)]) (fun w_ => by simp [Try.sizeOf3]) (by simp only [List.map_toArray, List.map_cons, List.map_nil]; rfl))),
       Ob.live (gi := 19) (tg := 36) rfl rfl rfl rfl (Ob.det rfl rfl rfl (fun _ a_ _ _ c => Runs.isB (b := selB (nth ([((4 : Int), (4 : Int))]) (0)) (4, 4)) (sel_eq rfl (c.ev 22 rfl rfl) (c.ev 23 rfl rfl)) (by decide +kernel))),
       Ob.det rfl rfl rfl (fun _ a_ _ _ c => r_pick rfl (c.ev 19 rfl rfl) (fun _ => (c.ev 24 rfl rfl)) (fun h => by cases h)),
       Ob.det rfl rfl rfl (fun _ a_ _ _ c => r_assign rfl (c.ev 25 rfl rfl)),
     trivial⟩ ?_
  intro a4 w4 τ4 st4 f4
  have e0 : get a4 0 = (.bool (true)) := f4.v 26 rfl
  clear f4
  show Code.wp _ _ _ a4 w4
  refine wp_ret ?_
  repeat (first | with_reducible refine then_ret ?_ | with_reducible refine block_ret ?_)
  refine ret1 (fn := Try.f9) rfl st4.defers e0 ?_
  exact ⟨rfl, st4.ext0⟩
end B
end Go.Proofs.Ytjapbdofhbfmfaa
