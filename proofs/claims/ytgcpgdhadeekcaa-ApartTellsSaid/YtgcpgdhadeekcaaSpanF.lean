/-
  Walks, printed by a program (gen.py): SpanF.
-/
import Derived.Test.YtgcpgdhadeekcaaSpanE
set_option linter.unusedSimpArgs false
set_option linter.unusedVariables false
namespace Go.Proofs.Ytgcpgdhadeekcaa
namespace B
open Go.RowKit
open Srt
theorem down_step {α : Type} [Inhabited α] {lt : α → α → Bool} {x : α} {out : List α} {k : Nat} (h : 0 < k) (hk : k ≤ out.length) (hq : ∀ q ∈ out.drop k, lt x q = true) (hc : lt x (nth out ((k : Int) - 1)) = true) : ∀ q ∈ out.drop (k - 1), lt x q = true := by
  rw [drop_cons (show k - 1 < out.length by omega), show k - 1 + 1 = k by omega]
  intro q hm
  rcases List.mem_cons.1 hm with rfl | hm
  · rwa [show ((k - 1 : Nat) : Int) = (k : Int) - 1 by omega]
  · exact hq q hm
theorem refIns {α : Type} [Inhabited α] {lt : α → α → Bool} {xs : List α} {i k : Nat} (h : i < xs.length) (hk : k ≤ (isort lt (xs.take i)).length) (hq : ∀ q ∈ (isort lt (xs.take i)).drop k, lt (nth xs (i : Int)) q = true)
    (hc : (decide ((0 : Int) < (k : Int)) && lt (nth xs (i : Int)) (nth (isort lt (xs.take i)) ((k : Int) - 1))) = false) :
    isort lt (xs.take (i + 1)) = (([] ++ ((isort lt (xs.take i)).drop 0).take (k - 0)) ++ [nth xs (i : Int)]) ++ ((isort lt (xs.take i)).drop k).take ((isort lt (xs.take i)).length - k) := by
  rw [take_snoc h, isort_snoc]
  generalize hO : isort lt (xs.take i) = O at *
  have e : O = O.take k ++ O.drop k := (List.take_append_drop k O).symm
  conv => lhs; rw [e]
  rw [ins_split hq]
  · rw [List.take_of_length_le (l := O.drop k) (by simp)]; simp
  · intro p hp
    by_cases h0 : k = 0
    · subst h0; simp at hp
    · have hlast : (O.take k).getLast? = some (nth O ((k : Int) - 1)) := by
        have := take_snoc (xs := O) (k := k - 1) (by omega)
        rw [show k - 1 + 1 = k by omega] at this
        rw [this, List.getLast?_append, show ((k - 1 : Nat) : Int) = (k : Int) - 1 by omega]; rfl
      rw [hlast] at hp
      cases hp
      have h1 : decide ((0 : Int) < (k : Int)) = true := decide_eq_true (by omega)
      rw [h1, Bool.true_and] at hc
      exact hc
def hitR (acc : List (Int × Int)) (p : Int × Int) : Bool := decide ((0 : Int) < (acc.length : Int)) && touchB (nth acc ((acc.length : Int) - 1)) p
def stepG (acc : List (Int × Int)) (p : Int × Int) : List (Int × Int) :=
  if decide (p.2 < p.1) = true then acc else if hitR acc p = true then acc.set ((acc.length : Int) - 1).toNat ((nth acc ((acc.length : Int) - 1)).1, max (nth acc ((acc.length : Int) - 1)).2 p.2) else acc ++ [p]
def joinG (xs : List (Int × Int)) : List (Int × Int) := xs.foldl stepG []
def unionR (xs : List (Int × Int)) : List (Int × Int) := joinG (isort lessB xs)
theorem joinG_snoc (xs : List (Int × Int)) (p : Int × Int) : joinG (xs ++ [p]) = stepG (joinG xs) p := by simp [joinG]
theorem joinG_skip {xs : List (Int × Int)} {k : Nat} (h : k < xs.length) (hs : decide ((nth xs (k : Int)).2 < (nth xs (k : Int)).1) = true) : joinG (xs.take (k + 1)) = joinG (xs.take k) := by
  rw [take_snoc h, joinG_snoc, stepG, if_pos hs]
theorem joinG_hit {xs : List (Int × Int)} {k : Nat} (h : k < xs.length) (hs : decide ((nth xs (k : Int)).2 < (nth xs (k : Int)).1) = false) (hc : hitR (joinG (xs.take k)) (nth xs (k : Int)) = true) :
    joinG (xs.take (k + 1)) = (joinG (xs.take k)).set (((joinG (xs.take k)).length : Int) - 1).toNat ((nth (joinG (xs.take k)) (((joinG (xs.take k)).length : Int) - 1)).1, max (nth (joinG (xs.take k)) (((joinG (xs.take k)).length : Int) - 1)).2 (nth xs (k : Int)).2) := by
  rw [take_snoc h, joinG_snoc, stepG, if_neg (by rw [hs]; decide), if_pos hc]
theorem joinG_miss {xs : List (Int × Int)} {k : Nat} (h : k < xs.length) (hs : decide ((nth xs (k : Int)).2 < (nth xs (k : Int)).1) = false) (hc : hitR (joinG (xs.take k)) (nth xs (k : Int)) = false) : joinG (xs.take (k + 1)) = joinG (xs.take k) ++ [nth xs (k : Int)] := by
  rw [take_snoc h, joinG_snoc, stepG, if_neg (by rw [hs]; decide), if_neg (by rw [hc]; decide)]
theorem joinG_le (xs : List (Int × Int)) : (joinG xs).length ≤ xs.length := by
  induction xs using snoc_ind with
  | h0 => simp [joinG]
  | h1 xs x ih =>
    rw [joinG_snoc, stepG]
    split
    · simp; omega
    · split
      · simp; omega
      · simp; omega
theorem joinG_take {xs : List (Int × Int)} {k : Nat} : (joinG (xs.take k)).length ≤ k := by
  have h1 := joinG_le (xs.take k)
  have h2 := List.length_take_le k xs
  omega
def badR (ss : List (Int × Int)) (i : Int) : Bool := decide ((nth ss i).2 < (nth ss i).1) || (decide (0 < i) && (decide ((nth ss i).1 ≤ (nth ss (i - 1)).1) || decide ((nth ss i).1 < (nth ss (i - 1)).2)))
theorem badR_1 {ss : List (Int × Int)} {i : Int} (h : decide ((nth ss i).2 < (nth ss i).1) = true) : badR ss i = true := by simp [badR, h]
theorem badR_2 {ss : List (Int × Int)} {i : Int} (h : (decide (0 < i) && (decide ((nth ss i).1 ≤ (nth ss (i - 1)).1) || decide ((nth ss i).1 < (nth ss (i - 1)).2))) = true) : badR ss i = true := by
  unfold badR; rw [h, Bool.or_true]
theorem badR_no {ss : List (Int × Int)} {i : Int} (h : decide ((nth ss i).2 < (nth ss i).1) = false) (h2 : (decide (0 < i) && (decide ((nth ss i).1 ≤ (nth ss (i - 1)).1) || decide ((nth ss i).1 < (nth ss (i - 1)).2))) = false) : badR ss i = false := by
  unfold badR; rw [h, h2]; rfl
def apartR (ss : List (Int × Int)) : Bool := (List.range ss.length).all fun i => !badR ss (i : Int)
theorem apartR_no {ss : List (Int × Int)} {k : Nat} (h : k < ss.length) (hb : badR ss (k : Int) = true) : apartR ss = false := by
  unfold apartR
  rw [List.all_eq_false]
  exact ⟨k, by simpa using h, by simp [hb]⟩
theorem apartR_yes {ss : List (Int × Int)} {k : Nat} (h : ∀ i < k, badR ss ((i : Nat) : Int) = false) (hk : ss.length ≤ k) : apartR ss = true := by
  unfold apartR
  rw [List.all_eq_true]
  intro i hi
  simp at hi
  simp [h i (by omega)]
set_option maxRecDepth 100000 in
theorem refSort_c (v : Value) (xs : List (Int × Int)) (w : World) (hS : SlT SpanE w v xs) (hbig : xs.length ≤ 1000000000000) : Calls Try.prog 30 #[v] w (fun e w' => ∃ v', e = .returned v' ∧ Ext none' w w' ∧ NewT SpanE 29 w w' v' (isort lessB xs)) := by
  refine enter (n := 46) Try.func30 rfl rfl (Nat.le_of_ble_eq_true rfl) ?_
  intro a0 τ0 ha st0
  have e0 : get a0 0 = v := ha 0 _ rfl
  clear ha
  have hle := hS.le
  refine wp_seq ?_
  refine region_St (bf := [0]) (sp := [
      (det (Nw w) 2 (.slice none 0 0))])
    [] mixed st0 (by kernel_rfl) trivial
    ⟨Ob.det rfl rfl rfl (fun _ a_ _ _ c => r_assign rfl rfl),
     trivial⟩ ?_
  intro a1 w1 τ1 st1 f1
  replace e0 := f1.old e0 (by kernel_rfl)
  have e2 : get a1 2 = (.slice none 0 0) := f1.v 0 rfl
  clear f1
  show Code.wp _ _ _ a1 w1
  refine wp_seq ?_
  refine region_St (bf := [0]) (sp := [
      (det (Nw w) 3 (.slice none 0 0))])
    [] mixed st1 (by kernel_rfl) trivial
    ⟨Ob.det rfl rfl rfl (fun _ a_ _ _ c => r_assign rfl rfl),
     trivial⟩ ?_
  intro a2 w2 τ2 st2 f2
  replace e0 := f2.old e0 (by kernel_rfl)
  replace e2 := f2.old e2 (by kernel_rfl)
  have e3 : get a2 3 = (.slice none 0 0) := f2.v 0 rfl
  clear f2
  show Code.wp _ _ _ a2 w2
  refine wp_seq ?_
  refine wp_seq ?_
  refine region_St (bf := [0]) (sp := [
      (det (Nw w) 4 (.int .i64 (0)))])
    [] mixed st2 (by kernel_rfl) trivial
    ⟨Ob.det rfl rfl rfl (fun _ a_ _ _ c => r_assign rfl rfl),
     trivial⟩ ?_
  intro a3 w3 τ3 st3 f3
  replace e0 := f3.old e0 (by kernel_rfl)
  replace e2 := f3.old e2 (by kernel_rfl)
  replace e3 := f3.old e3 (by kernel_rfl)
  have e4 : get a3 4 = (.int .i64 (0)) := f3.v 0 rfl
  clear f3
  show Code.wp _ _ _ a3 w3
  refine wp_block ?_
  refine wp_loop (fun a_ w_ => ∃ (i : Nat) (o : Value) (τ : Nat → Foot), (i ≤ xs.length) ∧
        St (Nw w) w 46 a_ w_ τ ∧
        get a_ 3 = o ∧
        get a_ 4 = (.int .i64 ((i : Int))) ∧
        get a_ 0 = v ∧
        get a_ 2 = (.slice none 0 0) ∧
        ownR SpanE 29 (isort lessB (xs.take i)) (τ 0) o w_) (fun a_ _ => xs.length - (intOf (get a_ 4)).toNat) ?_ ?_
  · refine ⟨0, (.slice none 0 0), τ3, ?_, st3, e3, (e4.trans (int_eq (by omega))), e0, e2, ?_⟩
    · omega
    · exact ownR.nil _ _ _ _
  · intro a4 w4 hI
    obtain ⟨i, o, τ4, q0, st4, e3, e4, e0, e2, r0⟩ := hI
    have hil := isort_length (lt := lessB) (xs.take i)
    have htl := List.length_take_le i xs
    have m4 := e4
    refine wp_seq ?_
    refine wp_seq ?_
    refine region_St (bf := [0, 0, 2, 7]) (sp := [
        (det (Nw w) 6 (.int .i64 ((i : Int)))),
            (det (Nw w) 7 v),
            (det (Nw w) 8 (.int .i64 ((xs.length : Int)))),
            (det (Nw w) 9 (.bool (decide ((i : Int) < (xs.length : Int)))))])
      [(iown SpanE 29 (Nw w) o (isort lessB (xs.take i)))] mixed st4 (by kernel_rfl) ⟨r0, trivial⟩
      ⟨Ob.det rfl rfl rfl (fun _ a_ _ _ c => r_move rfl (c.eo e4 (by kernel_rfl))),
           Ob.det rfl rfl rfl (fun _ a_ _ _ c => r_move rfl (c.eo e0 (by kernel_rfl))),
           Ob.det rfl rfl rfl (fun _ a_ _ _ c => r_len rfl Try.underlying22 (c.ev 1 rfl rfl) hS.sl),
           Ob.det rfl rfl rfl (fun _ a_ _ _ c => r_lss rfl (c.ev 0 rfl rfl) (c.ev 2 rfl rfl)),
       trivial⟩ ?_
    intro a5 w5 τ5 st5 f5
    replace e0 := f5.old e0 (by kernel_rfl)
    replace e2 := f5.old e2 (by kernel_rfl)
    replace e3 := f5.old e3 (by kernel_rfl)
    replace e4 := f5.old e4 (by kernel_rfl)
    have e9 : get a5 9 = (.bool (decide ((i : Int) < (xs.length : Int)))) := f5.v 3 rfl
    replace r0 : ownR SpanE 29 (isort lessB (xs.take i)) (τ5 0) o w5 := f5.iown 0 rfl rfl
    clear f5
    show Code.wp _ _ _ a5 w5
    refine wp_cond_split (t := decide ((i : Int) < (xs.length : Int))) e9 (fun hc1 => ?_) (fun hc1 => ?_)
    · try simp only [Bool.and_eq_true, Bool.or_eq_true, decide_eq_true_eq, decide_eq_false_iff_not, Bool.not_eq_true', Bool.and_eq_false_iff, Bool.or_eq_false_iff, Bool.not_eq_false', Int.not_lt, Int.not_le, beq_iff_eq, spanB] at hc1
      refine wp_skip ?_
      show Code.wp _ _ _ a5 w5
      refine wp_seq ?_
      refine wp_block ?_
      refine wp_seq ?_
      refine region_St (bf := [0, 1, 3]) (sp := [
          (det (Nw w) 12 o),
                (det (Nw w) 13 (.int .i64 (((isort lessB (xs.take i)).length : Int)))),
                (det (Nw w) 5 (.int .i64 (((isort lessB (xs.take i)).length : Int))))])
        [(iown SpanE 29 (Nw w) o (isort lessB (xs.take i)))] mixed st5 (by kernel_rfl) ⟨r0, trivial⟩
        ⟨Ob.det rfl rfl rfl (fun _ a_ _ _ c => r_move rfl (c.eo e3 (by kernel_rfl))),
               Ob.det rfl rfl rfl (fun _ a_ _ _ c => r_len rfl Try.underlying22 (c.ev 0 rfl rfl) r0.isSl),
               Ob.det rfl rfl rfl (fun _ a_ _ _ c => r_assign rfl (c.ev 1 rfl rfl)),
         trivial⟩ ?_
      intro a6 w6 τ6 st6 f6
      replace e0 := f6.old e0 (by kernel_rfl)
      replace e2 := f6.old e2 (by kernel_rfl)
      replace e3 := f6.old e3 (by kernel_rfl)
      replace e4 := f6.old e4 (by kernel_rfl)
      have e5 : get a6 5 = (.int .i64 (((isort lessB (xs.take i)).length : Int))) := f6.v 2 rfl
      replace e9 := f6.old e9 (by kernel_rfl)
      replace r0 : ownR SpanE 29 (isort lessB (xs.take i)) (τ6 0) o w6 := f6.iown 0 rfl rfl
      clear f6
      show Code.wp _ _ _ a6 w6
      refine wp_seq ?_
      refine wp_block ?_
      refine wp_loop (fun a_ w_ => ∃ (k : Nat) (τ : Nat → Foot), (k ≤ (isort lessB (xs.take i)).length) ∧
                (∀ q ∈ (isort lessB (xs.take i)).drop k, lessB (nth xs (i : Int)) q = true) ∧
                St (Nw w) w 46 a_ w_ τ ∧
                get a_ 5 = (.int .i64 ((k : Int))) ∧
                get a_ 0 = v ∧
                get a_ 2 = (.slice none 0 0) ∧
                get a_ 3 = o ∧
                get a_ 4 = (.int .i64 ((i : Int))) ∧
                get a_ 9 = (.bool (decide ((i : Int) < (xs.length : Int)))) ∧
                ownR SpanE 29 (isort lessB (xs.take i)) (τ 0) o w_) (fun a_ _ => (intOf (get a_ 5)).toNat) ?_ ?_
      · refine ⟨(isort lessB (xs.take i)).length, τ6, ?_, ?_, st6, (e5.trans (int_eq (by omega))), e0, e2, e3, e4, e9, r0⟩
        · omega
        · simp
      · intro a7 w7 hI
        obtain ⟨k, τ7, q0, q1, st7, e5, e0, e2, e3, e4, e9, r0⟩ := hI
        have m5 := e5
        refine wp_seq ?_
        refine wp_seq ?_
        refine region_St (bf := [0, 1, 3, 7, 7, 31, 63, 7, 7, 263, 903, 1927, 4095, 8191]) (sp := [
            (det (Nw w) 14 (.int .i64 ((k : Int)))),
                    (det (Nw w) 15 (.bool (decide (0 < (k : Int))))),
                    (det (Nw w) 16 (.bool (decide (0 < (k : Int))))),
                    (gdet (Nw w) 17 ((decide (0 < (k : Int))) = true) v),
                    (gdet (Nw w) 18 ((decide (0 < (k : Int))) = true) (.int .i64 ((i : Int)))),
                    (gdet (Nw w) 19 ((decide (0 < (k : Int))) = true) (.pointer (some ((ptrOf v).add (((i : Int) : Int).toNat * 2))))),
                    (gdet (Nw w) 20 ((decide (0 < (k : Int))) = true) (.agg #[(.int .i64 ((nth xs ((i : Int))).1)), (.int .i64 ((nth xs ((i : Int))).2))])),
                    (gdet (Nw w) 21 ((decide (0 < (k : Int))) = true) o),
                    (gdet (Nw w) 22 ((decide (0 < (k : Int))) = true) (.int .i64 ((k : Int)))),
                    (gdet (Nw w) 23 ((decide (0 < (k : Int))) = true) (.int .i64 ((k : Int) - 1))),
                    (gdet (Nw w) 24 ((decide (0 < (k : Int))) = true) (.pointer (some ((ptrOf o).add (((k : Int) - 1 : Int).toNat * 2))))),
                    (gdet (Nw w) 25 ((decide (0 < (k : Int))) = true) (.agg #[(.int .i64 ((nth (isort lessB (xs.take i)) ((k : Int) - 1)).1)), (.int .i64 ((nth (isort lessB (xs.take i)) ((k : Int) - 1)).2))])),
                    (gdet (Nw w) 26 ((decide (0 < (k : Int))) = true) (.bool (lessB (nth xs ((i : Int))) (nth (isort lessB (xs.take i)) ((k : Int) - 1))))),
                    (det (Nw w) 27 (.bool ((decide (0 < (k : Int))) && (lessB (nth xs ((i : Int))) (nth (isort lessB (xs.take i)) ((k : Int) - 1))))))])
          [(iown SpanE 29 (Nw w) o (isort lessB (xs.take i)))] mixed st7 (by kernel_rfl) ⟨r0, trivial⟩
          ⟨Ob.det rfl rfl rfl (fun _ a_ _ _ c => r_move rfl (c.eo e5 (by kernel_rfl))),
                   Ob.det rfl rfl rfl (fun _ a_ _ _ c => r_gtr rfl (c.ev 0 rfl rfl) rfl),
                   Ob.det rfl rfl rfl (fun _ a_ _ _ c => r_move rfl (c.ev 1 rfl rfl)),
                   Ob.gdet rfl rfl rfl rfl (gi := 2) (tg := 16) rfl rfl Iff.rfl (fun _ a_ _ _ c hpc => r_move rfl (c.eo e0 (by kernel_rfl))),
                   Ob.gdet rfl rfl rfl rfl (gi := 2) (tg := 16) rfl rfl Iff.rfl (fun _ a_ _ _ c hpc => r_move rfl (c.eo e4 (by kernel_rfl))),
                   Ob.gdet rfl rfl rfl rfl (gi := 2) (tg := 16) rfl rfl Iff.rfl (fun _ a_ _ _ c hpc => r_indexAddr rfl Try.underlying22 Try.sizeOf29 (c.eg 3 rfl rfl hpc) hS.sl (c.eg 4 rfl rfl hpc) (by have hq0 := hpc; (try simp only [Bool.and_eq_true, Bool.or_eq_true, decide_eq_true_eq, decide_eq_false_iff_not, Bool.not_eq_true', Bool.and_eq_false_iff, Bool.or_eq_false_iff, Bool.not_eq_false', Int.not_lt, Int.not_le, beq_iff_eq, spanB] at hq0); omega) (by have hq0 := hpc; (try simp only [Bool.and_eq_true, Bool.or_eq_true, decide_eq_true_eq, decide_eq_false_iff_not, Bool.not_eq_true', Bool.and_eq_false_iff, Bool.or_eq_false_iff, Bool.not_eq_false', Int.not_lt, Int.not_le, beq_iff_eq, spanB] at hq0); omega)),
                   Ob.gdet rfl rfl rfl rfl (gi := 2) (tg := 16) rfl rfl Iff.rfl (fun _ a_ _ _ c hpc => r_loadN (vs := [(.int .i64 ((nth xs ((i : Int))).1)), (.int .i64 ((nth xs ((i : Int))).2))]) rfl Try.isAgg29 Try.sizeOf29 (c.eg 5 rfl rfl hpc) rfl (fun _ _ hj => ((hS.at (st7.ext.trans c.J.ext))).elem (nth_some (by have hq0 := hpc; (try simp only [Bool.and_eq_true, Bool.or_eq_true, decide_eq_true_eq, decide_eq_false_iff_not, Bool.not_eq_true', Bool.and_eq_false_iff, Bool.or_eq_false_iff, Bool.not_eq_false', Int.not_lt, Int.not_le, beq_iff_eq, spanB] at hq0); omega) (by have hq0 := hpc; (try simp only [Bool.and_eq_true, Bool.or_eq_true, decide_eq_true_eq, decide_eq_false_iff_not, Bool.not_eq_true', Bool.and_eq_false_iff, Bool.or_eq_false_iff, Bool.not_eq_false', Int.not_lt, Int.not_le, beq_iff_eq, spanB] at hq0); omega)) hj)),
                   Ob.gdet rfl rfl rfl rfl (gi := 2) (tg := 16) rfl rfl Iff.rfl (fun _ a_ _ _ c hpc => r_move rfl (c.eo e3 (by kernel_rfl))),
                   Ob.gdet rfl rfl rfl rfl (gi := 2) (tg := 16) rfl rfl Iff.rfl (fun _ a_ _ _ c hpc => r_move rfl (c.eo e5 (by kernel_rfl))),
                   Ob.gdet rfl rfl rfl rfl (gi := 2) (tg := 16) rfl rfl Iff.rfl (fun _ a_ _ _ c hpc => r_sub rfl (c.eg 8 rfl rfl hpc) rfl (by have hq0 := hpc; (try simp only [Bool.and_eq_true, Bool.or_eq_true, decide_eq_true_eq, decide_eq_false_iff_not, Bool.not_eq_true', Bool.and_eq_false_iff, Bool.or_eq_false_iff, Bool.not_eq_false', Int.not_lt, Int.not_le, beq_iff_eq, spanB] at hq0); omega)),
                   Ob.gdet rfl rfl rfl rfl (gi := 2) (tg := 16) rfl rfl Iff.rfl (fun _ a_ _ _ c hpc => r_indexAddr rfl Try.underlying22 Try.sizeOf29 (c.eg 7 rfl rfl hpc) r0.isSl (c.eg 9 rfl rfl hpc) (by have hq0 := hpc; (try simp only [Bool.and_eq_true, Bool.or_eq_true, decide_eq_true_eq, decide_eq_false_iff_not, Bool.not_eq_true', Bool.and_eq_false_iff, Bool.or_eq_false_iff, Bool.not_eq_false', Int.not_lt, Int.not_le, beq_iff_eq, spanB] at hq0); omega) (by have hq0 := hpc; (try simp only [Bool.and_eq_true, Bool.or_eq_true, decide_eq_true_eq, decide_eq_false_iff_not, Bool.not_eq_true', Bool.and_eq_false_iff, Bool.or_eq_false_iff, Bool.not_eq_false', Int.not_lt, Int.not_le, beq_iff_eq, spanB] at hq0); omega)),
                   Ob.gdet rfl rfl rfl rfl (gi := 2) (tg := 16) rfl rfl Iff.rfl (fun _ a_ _ _ c hpc => r_loadN (vs := [(.int .i64 ((nth (isort lessB (xs.take i)) ((k : Int) - 1)).1)), (.int .i64 ((nth (isort lessB (xs.take i)) ((k : Int) - 1)).2))]) rfl Try.isAgg29 Try.sizeOf29 (c.eg 10 rfl rfl hpc) rfl (fun _ _ hj => ((c.iown 0 rfl rfl (by kernel_rfl)).1.sl).elem (nth_some (by have hq0 := hpc; (try simp only [Bool.and_eq_true, Bool.or_eq_true, decide_eq_true_eq, decide_eq_false_iff_not, Bool.not_eq_true', Bool.and_eq_false_iff, Bool.or_eq_false_iff, Bool.not_eq_false', Int.not_lt, Int.not_le, beq_iff_eq, spanB] at hq0); omega) (by have hq0 := hpc; (try simp only [Bool.and_eq_true, Bool.or_eq_true, decide_eq_true_eq, decide_eq_false_iff_not, Bool.not_eq_true', Bool.and_eq_false_iff, Bool.or_eq_false_iff, Bool.not_eq_false', Int.not_lt, Int.not_le, beq_iff_eq, spanB] at hq0); omega)) hj)),
                   Ob.gcall rfl rfl rfl rfl (gi := 2) (tg := 16) rfl rfl Iff.rfl (fun _ a_ _ _ c hpc => ⟨_, _, (e_call2 rfl rfl Try.call35 (c.eg 6 rfl rfl hpc) (c.eg 11 rfl rfl hpc)), refLess_c (nth xs ((i : Int))) (nth (isort lessB (xs.take i)) ((k : Int) - 1)) _⟩),
                   Ob.det rfl rfl rfl (fun _ a_ _ _ c => r_and rfl (c.ev 2 rfl rfl) (fun h => (c.eg 12 rfl rfl h))),
           trivial⟩ ?_
        intro a8 w8 τ8 st8 f8
        replace e0 := f8.old e0 (by kernel_rfl)
        replace e2 := f8.old e2 (by kernel_rfl)
        replace e3 := f8.old e3 (by kernel_rfl)
        replace e4 := f8.old e4 (by kernel_rfl)
        replace e5 := f8.old e5 (by kernel_rfl)
        replace e9 := f8.old e9 (by kernel_rfl)
        have e27 : get a8 27 = (.bool ((decide (0 < (k : Int))) && (lessB (nth xs ((i : Int))) (nth (isort lessB (xs.take i)) ((k : Int) - 1))))) := f8.v 13 rfl
        replace r0 : ownR SpanE 29 (isort lessB (xs.take i)) (τ8 0) o w8 := f8.iown 0 rfl rfl
        clear f8
        show Code.wp _ _ _ a8 w8
        refine wp_cond_split (t := (decide (0 < (k : Int))) && (lessB (nth xs ((i : Int))) (nth (isort lessB (xs.take i)) ((k : Int) - 1)))) e27 (fun hc2 => ?_) (fun hc2 => ?_)
        · have hd2 := hc2; try simp only [Bool.and_eq_true, Bool.or_eq_true, decide_eq_true_eq, decide_eq_false_iff_not, Bool.not_eq_true', Bool.and_eq_false_iff, Bool.or_eq_false_iff, Bool.not_eq_false', Int.not_lt, Int.not_le, beq_iff_eq, spanB] at hd2
          refine wp_skip ?_
          show Code.wp _ _ _ a8 w8
          refine wp_block ?_
          refine region_St (bf := [0, 1, 3]) (sp := [
              (det (Nw w) 28 (.int .i64 ((k : Int)))),
                        (det (Nw w) 29 (.int .i64 ((k : Int) - 1))),
                        (det (Nw w) 5 (.int .i64 ((k : Int) - 1)))])
            [(iown SpanE 29 (Nw w) o (isort lessB (xs.take i)))] mixed st8 (by kernel_rfl) ⟨r0, trivial⟩
            ⟨Ob.det rfl rfl rfl (fun _ a_ _ _ c => r_move rfl (c.eo e5 (by kernel_rfl))),
                       Ob.det rfl rfl rfl (fun _ a_ _ _ c => r_sub rfl (c.ev 0 rfl rfl) rfl (by omega)),
                       Ob.det rfl rfl rfl (fun _ a_ _ _ c => r_assign rfl (c.ev 1 rfl rfl)),
             trivial⟩ ?_
          intro a9 w9 τ9 st9 f9
          replace e0 := f9.old e0 (by kernel_rfl)
          replace e2 := f9.old e2 (by kernel_rfl)
          replace e3 := f9.old e3 (by kernel_rfl)
          replace e4 := f9.old e4 (by kernel_rfl)
          have e5 : get a9 5 = (.int .i64 ((k : Int) - 1)) := f9.v 2 rfl
          replace e9 := f9.old e9 (by kernel_rfl)
          replace e27 := f9.old e27 (by kernel_rfl)
          replace r0 : ownR SpanE 29 (isort lessB (xs.take i)) (τ9 0) o w9 := f9.iown 0 rfl rfl
          clear f9
          show _
          refine ⟨⟨k - 1, τ9, ?_, ?_, st9, (e5.trans (int_eq (by omega))), e0, e2, e3, e4, e9, r0⟩, ?_⟩
          · omega
          · obtain ⟨h1_, h_⟩ := (by assumption : (0 : Int) < (k : Int) ∧ lessB (nth xs (i : Int)) (nth (isort lessB (xs.take i)) ((k : Int) - 1)) = true); exact down_step (by omega) q0 q1 h_
          · simp only [m5, e5, intOf]; omega
        · have hd2 := hc2; try simp only [Bool.and_eq_true, Bool.or_eq_true, decide_eq_true_eq, decide_eq_false_iff_not, Bool.not_eq_true', Bool.and_eq_false_iff, Bool.or_eq_false_iff, Bool.not_eq_false', Int.not_lt, Int.not_le, beq_iff_eq, spanB] at hd2
          refine wp_exit ?_
          repeat (with_reducible refine then_exit ?_)
          refine exit_here ?_
          show Code.wp _ _ _ a8 w8
          refine region_St (bf := [0, 0, 0, 6, 15, 0, 0, 96, 224, 480, 1023, 0, 0, 6144, 16383, 32767]) (sp := [
              (own SpanE 29 (Nw w) 1 30 ([])),
                        (det (Nw w) 31 o),
                        (det (Nw w) 32 (.int .i64 ((k : Int)))),
                        (det (Nw w) 33 (subV o 0 k 2)),
                        (own SpanE 29 (Nw w) 1 34 (([]) ++ (((isort lessB (xs.take i)).drop 0).take (k - 0)))),
                        (det (Nw w) 35 v),
                        (det (Nw w) 36 (.int .i64 ((i : Int)))),
                        (det (Nw w) 37 (.pointer (some ((ptrOf v).add (((i : Int) : Int).toNat * 2))))),
                        (det (Nw w) 38 (.agg #[(.int .i64 ((nth xs ((i : Int))).1)), (.int .i64 ((nth xs ((i : Int))).2))])),
                        (own SpanE 29 (Nw w) 2 39 ([(nth xs ((i : Int)))])),
                        (own SpanE 29 (Nw w) 1 40 ((([]) ++ (((isort lessB (xs.take i)).drop 0).take (k - 0))) ++ ([(nth xs ((i : Int)))]))),
                        (det (Nw w) 41 o),
                        (det (Nw w) 42 (.int .i64 ((k : Int)))),
                        (det (Nw w) 43 (subV o k ((isort lessB (xs.take i)).length) 2)),
                        (own SpanE 29 (Nw w) 1 44 (((([]) ++ (((isort lessB (xs.take i)).drop 0).take (k - 0))) ++ ([(nth xs ((i : Int)))])) ++ (((isort lessB (xs.take i)).drop k).take (((isort lessB (xs.take i)).length) - k)))),
                        (own SpanE 29 (Nw w) 1 3 (((([]) ++ (((isort lessB (xs.take i)).drop 0).take (k - 0))) ++ ([(nth xs ((i : Int)))])) ++ (((isort lessB (xs.take i)).drop k).take (((isort lessB (xs.take i)).length) - k))))])
            [(iown SpanE 29 (Nw w) o (isort lessB (xs.take i)))] mixed st8 (by kernel_rfl) ⟨r0, trivial⟩
            ⟨Ob.buildEmpty rfl rfl rfl rfl Try.underlying22 Try.sizeOf29,
                       Ob.det rfl rfl rfl (fun _ a_ _ _ c => r_move rfl (c.eo e3 (by kernel_rfl))),
                       Ob.det rfl rfl rfl (fun _ a_ _ _ c => r_move rfl (c.eo e5 (by kernel_rfl))),
                       Ob.det rfl rfl rfl (fun _ a_ _ _ c => r_sliceHi rfl Try.underlying22 Try.sizeOf29 (c.ev 1 rfl rfl) r0.isSl (c.ev 2 rfl rfl) (by omega) (by omega)),
                       Ob.append (t0 := 30) rfl rfl rfl rfl Try.underlying22 (i := Try.t29) rfl rfl rfl rfl (by simp only [maxLen]; (try simp); omega) (by show _ * 16 ≤ _; (try simp); omega) (fun _ _ _ _ c => ⟨c.rown 0 rfl rfl (by kernel_rfl), rfl, ⟨_, (c.ev 3 rfl rfl), ((c.iown 0 rfl rfl (by kernel_rfl)).1.sl.sub (lo := 0) (hi := k) (by omega) (by omega))⟩⟩),
                       Ob.det rfl rfl rfl (fun _ a_ _ _ c => r_move rfl (c.eo e0 (by kernel_rfl))),
                       Ob.det rfl rfl rfl (fun _ a_ _ _ c => r_move rfl (c.eo e4 (by kernel_rfl))),
                       Ob.det rfl rfl rfl (fun _ a_ _ _ c => r_indexAddr rfl Try.underlying22 Try.sizeOf29 (c.ev 5 rfl rfl) hS.sl (c.ev 6 rfl rfl) (by omega) (by omega)),
                       Ob.det rfl rfl rfl (fun _ a_ _ _ c => r_loadN (vs := [(.int .i64 ((nth xs ((i : Int))).1)), (.int .i64 ((nth xs ((i : Int))).2))]) rfl Try.isAgg29 Try.sizeOf29 (c.ev 7 rfl rfl) rfl (fun _ _ hj => ((hS.at (st8.ext.trans c.J.ext))).elem (nth_some (by omega) (by omega)) hj)),
                       Ob.buildSlice (cells := #[(.int .i64 ((nth xs ((i : Int))).1)), (.int .i64 ((nth xs ((i : Int))).2))]) rfl rfl rfl rfl Try.underlying22 Try.sizeOf29 Try.zeroValue29 rfl (by decide) (by decide) (fun _ a_ _ _ c => by simp only [List.map_toArray, List.map_cons, List.map_nil, (show a_.eval (.tmp 38) = (.agg #[(.int .i64 ((nth xs ((i : Int))).1)), (.int .i64 ((nth xs ((i : Int))).2))]) from (c.ev 8 rfl rfl))]; kernel_rfl) rfl,
                       Ob.append (t0 := 34) rfl rfl rfl rfl Try.underlying22 (i := Try.t29) rfl rfl rfl rfl (by simp only [maxLen]; (try simp); omega) (by show _ * 16 ≤ _; (try simp); omega) (fun _ _ _ _ c => ⟨c.rown 4 rfl rfl (by kernel_rfl), rfl, ⟨_, rfl, (c.rown 9 rfl rfl (by kernel_rfl)).1.sl⟩⟩),
                       Ob.det rfl rfl rfl (fun _ a_ _ _ c => r_move rfl (c.eo e3 (by kernel_rfl))),
                       Ob.det rfl rfl rfl (fun _ a_ _ _ c => r_move rfl (c.eo e5 (by kernel_rfl))),
                       Ob.det rfl rfl rfl (fun _ a_ _ _ c => r_sliceLo rfl Try.underlying22 Try.sizeOf29 (c.ev 11 rfl rfl) r0.isSl (c.ev 12 rfl rfl) (by omega) (by omega)),
                       Ob.append (t0 := 40) rfl rfl rfl rfl Try.underlying22 (i := Try.t29) rfl rfl rfl rfl (by simp only [maxLen]; (try simp); omega) (by show _ * 16 ≤ _; (try simp); omega) (fun _ _ _ _ c => ⟨c.rown 10 rfl rfl (by kernel_rfl), rfl, ⟨_, (c.ev 13 rfl rfl), ((c.iown 0 rfl rfl (by kernel_rfl)).1.sl.sub (lo := k) (hi := (isort lessB (xs.take i)).length) (by omega) (by omega))⟩⟩),
                       Ob.moveT (t0 := 44) rfl rfl rfl rfl rfl (.inr rfl) (fun _ _ _ _ c => ⟨c.rown 14 rfl rfl (by kernel_rfl), rfl⟩),
             trivial⟩ ?_
          intro a10 w10 τ10 st10 f10
          obtain ⟨b10x3, e3⟩ : ∃ b, get a10 3 = b := ⟨_, rfl⟩
          obtain ⟨b10x39, e39⟩ : ∃ b, get a10 39 = b := ⟨_, rfl⟩
          replace e0 := f10.old e0 (by kernel_rfl)
          replace e2 := f10.old e2 (by kernel_rfl)
          replace e4 := f10.old e4 (by kernel_rfl)
          replace e5 := f10.old e5 (by kernel_rfl)
          replace e9 := f10.old e9 (by kernel_rfl)
          replace e27 := f10.old e27 (by kernel_rfl)
          replace r0 : ownR SpanE 29 (isort lessB (xs.take i)) (τ10 0) o w10 := f10.iown 0 rfl rfl
          have r1 : ownR SpanE 29 (((([]) ++ (((isort lessB (xs.take i)).drop 0).take (k - 0))) ++ ([(nth xs ((i : Int)))])) ++ (((isort lessB (xs.take i)).drop k).take (((isort lessB (xs.take i)).length) - k))) (τ10 1) b10x3 w10 := f10.rown 15 rfl rfl e3
          have r2 : ownR SpanE 29 ([(nth xs ((i : Int)))]) (τ10 2) b10x39 w10 := f10.rown 9 rfl rfl e39
          clear f10
          show _
          show Code.wp _ _ _ a10 w10
          refine region_St (bf := [0, 1, 3]) (sp := [
              (det (Nw w) 10 (.int .i64 ((i : Int)))),
                        (det (Nw w) 11 (.int .i64 ((i : Int) + 1))),
                        (det (Nw w) 4 (.int .i64 ((i : Int) + 1)))])
            [(iown SpanE 29 (Nw w) o (isort lessB (xs.take i))), (iown SpanE 29 (Nw w) b10x3 (((([]) ++ (((isort lessB (xs.take i)).drop 0).take (k - 0))) ++ ([(nth xs ((i : Int)))])) ++ (((isort lessB (xs.take i)).drop k).take (((isort lessB (xs.take i)).length) - k)))), (iown SpanE 29 (Nw w) b10x39 ([(nth xs ((i : Int)))]))] mixed st10 (by kernel_rfl) ⟨r0, r1, r2, trivial⟩
            ⟨Ob.det rfl rfl rfl (fun _ a_ _ _ c => r_move rfl (c.eo e4 (by kernel_rfl))),
                       Ob.det rfl rfl rfl (fun _ a_ _ _ c => r_add rfl (c.ev 0 rfl rfl) rfl (by omega)),
                       Ob.det rfl rfl rfl (fun _ a_ _ _ c => r_assign rfl (c.ev 1 rfl rfl)),
             trivial⟩ ?_
          intro a11 w11 τ11 st11 f11
          replace e0 := f11.old e0 (by kernel_rfl)
          replace e2 := f11.old e2 (by kernel_rfl)
          replace e3 := f11.old e3 (by kernel_rfl)
          have e4 : get a11 4 = (.int .i64 ((i : Int) + 1)) := f11.v 2 rfl
          replace e5 := f11.old e5 (by kernel_rfl)
          replace e9 := f11.old e9 (by kernel_rfl)
          replace e27 := f11.old e27 (by kernel_rfl)
          replace r0 : ownR SpanE 29 (isort lessB (xs.take i)) (τ11 0) o w11 := f11.iown 0 rfl rfl
          replace r1 : ownR SpanE 29 (((([]) ++ (((isort lessB (xs.take i)).drop 0).take (k - 0))) ++ ([(nth xs ((i : Int)))])) ++ (((isort lessB (xs.take i)).drop k).take (((isort lessB (xs.take i)).length) - k))) (τ11 1) b10x3 w11 := f11.iown 1 rfl rfl
          replace r2 : ownR SpanE 29 ([(nth xs ((i : Int)))]) (τ11 2) b10x39 w11 := f11.iown 2 rfl rfl
          clear f11
          refine ⟨⟨i + 1, b10x3, (retag τ11 [(0, 1)]), ?_, (st11.retag [(0, 1)] (by decide)), e3, (e4.trans (int_eq (by omega))), e0, e2, ?_⟩, ?_⟩
          · omega
          · exact r1.cast (by exact refIns (by omega) q0 q1 (by assumption))
          · simp only [m4, e4, intOf]; omega
    · try simp only [Bool.and_eq_true, Bool.or_eq_true, decide_eq_true_eq, decide_eq_false_iff_not, Bool.not_eq_true', Bool.and_eq_false_iff, Bool.or_eq_false_iff, Bool.not_eq_false', Int.not_lt, Int.not_le, beq_iff_eq, spanB] at hc1
      refine wp_exit ?_
      repeat (with_reducible refine then_exit ?_)
      refine exit_here ?_
      show Code.wp _ _ _ a5 w5
      refine wp_seq ?_
      refine region_St (bf := [0, 1]) (sp := [
          (det (Nw w) 45 o),
                (det (Nw w) 2 o)])
        [(iown SpanE 29 (Nw w) o (isort lessB (xs.take i)))] mixed st5 (by kernel_rfl) ⟨r0, trivial⟩
        ⟨Ob.det rfl rfl rfl (fun _ a_ _ _ c => r_move rfl (c.eo e3 (by kernel_rfl))),
               Ob.det rfl rfl rfl (fun _ a_ _ _ c => r_assign rfl (c.ev 0 rfl rfl)),
         trivial⟩ ?_
      intro a12 w12 τ12 st12 f12
      replace e0 := f12.old e0 (by kernel_rfl)
      have e2 : get a12 2 = o := f12.v 1 rfl
      replace e3 := f12.old e3 (by kernel_rfl)
      replace e4 := f12.old e4 (by kernel_rfl)
      replace e9 := f12.old e9 (by kernel_rfl)
      replace r0 : ownR SpanE 29 (isort lessB (xs.take i)) (τ12 0) o w12 := f12.iown 0 rfl rfl
      clear f12
      show Code.wp _ _ _ a12 w12
      refine wp_ret ?_
      repeat (first | with_reducible refine then_ret ?_ | with_reducible refine block_ret ?_)
      refine ret1 (fn := Try.f30) rfl st12.defers e2 ?_
      replace r0 := r0.cast (show isort lessB xs = _ from by rw [List.take_of_length_le (by omega)])
      exact ⟨_, rfl, st12.ext0, r0.1, fun g_ h_ => (st12.bnd _ g_ (r0.2 g_ h_)).1⟩

set_option maxRecDepth 100000 in
theorem refUnion_c (v : Value) (xs : List (Int × Int)) (w : World) (hS : SlT SpanE w v xs) (hbig : xs.length ≤ 1000000000000) : Calls Try.prog 14 #[v] w (fun e w' => ∃ v', e = .returned v' ∧ Ext none' w w' ∧ NewT SpanE 29 w w' v' (unionR xs)) := by
  refine enter (n := 67) Try.func14 rfl rfl (Nat.le_of_ble_eq_true rfl) ?_
  intro a0 τ0 ha st0
  have e0 : get a0 0 = v := ha 0 _ rfl
  clear ha
  have hle := hS.le
  refine wp_seq ?_
  refine region_St (bf := [0]) (sp := [
      (det (Nw w) 2 (.slice none 0 0))])
    [] mixed st0 (by kernel_rfl) trivial
    ⟨Ob.det rfl rfl rfl (fun _ a_ _ _ c => r_assign rfl rfl),
     trivial⟩ ?_
  intro a1 w1 τ1 st1 f1
  replace e0 := f1.old e0 (by kernel_rfl)
  have e2 : get a1 2 = (.slice none 0 0) := f1.v 0 rfl
  clear f1
  show Code.wp _ _ _ a1 w1
  refine wp_seq ?_
  refine region_St (bf := [0, 1, 3]) (sp := [
      (det (Nw w) 7 v),
        (own SpanE 29 (Nw w) 1 8 (isort lessB xs)),
        (own SpanE 29 (Nw w) 1 3 (isort lessB xs))])
    [] mixed st1 (by kernel_rfl) trivial
    ⟨Ob.det rfl rfl rfl (fun _ a_ _ _ c => r_move rfl (c.eo e0 (by kernel_rfl))),
       Ob.callOwn rfl rfl rfl (fun _ a_ _ _ c => ⟨_, _, (e_call1 rfl rfl Try.call30 (c.ev 0 rfl rfl)), refSort_c v xs _ (hS.at (st1.ext.trans c.J.ext)) (by omega)⟩),
       Ob.moveT (t0 := 8) rfl rfl rfl rfl rfl (.inr rfl) (fun _ _ _ _ c => ⟨c.rown 1 rfl rfl (by kernel_rfl), rfl⟩),
     trivial⟩ ?_
  intro a2 w2 τ2 st2 f2
  obtain ⟨b2x3, e3⟩ : ∃ b, get a2 3 = b := ⟨_, rfl⟩
  replace e0 := f2.old e0 (by kernel_rfl)
  replace e2 := f2.old e2 (by kernel_rfl)
  have r1 : ownR SpanE 29 (isort lessB xs) (τ2 1) b2x3 w2 := f2.rown 2 rfl rfl e3
  clear f2
  have hil := isort_length (lt := lessB) xs
  show Code.wp _ _ _ a2 w2
  refine wp_seq ?_
  refine region_St (bf := [0]) (sp := [
      (det (Nw w) 4 (.slice none 0 0))])
    [(Ini.any (Nw w)), (iown SpanE 29 (Nw w) b2x3 (isort lessB xs))] mixed st2 (by kernel_rfl) ⟨trivial, r1, trivial⟩
    ⟨Ob.det rfl rfl rfl (fun _ a_ _ _ c => r_assign rfl rfl),
     trivial⟩ ?_
  intro a3 w3 τ3 st3 f3
  replace e0 := f3.old e0 (by kernel_rfl)
  replace e2 := f3.old e2 (by kernel_rfl)
  replace e3 := f3.old e3 (by kernel_rfl)
  have e4 : get a3 4 = (.slice none 0 0) := f3.v 0 rfl
  replace r1 : ownR SpanE 29 (isort lessB xs) (τ3 1) b2x3 w3 := f3.iown 1 rfl rfl
  clear f3
  show Code.wp _ _ _ a3 w3
  refine wp_seq ?_
  refine wp_seq ?_
  refine region_St (bf := [0]) (sp := [
      (det (Nw w) 5 (.int .i64 (0)))])
    [(Ini.any (Nw w)), (iown SpanE 29 (Nw w) b2x3 (isort lessB xs))] mixed st3 (by kernel_rfl) ⟨trivial, r1, trivial⟩
    ⟨Ob.det rfl rfl rfl (fun _ a_ _ _ c => r_assign rfl rfl),
     trivial⟩ ?_
  intro a4 w4 τ4 st4 f4
  replace e0 := f4.old e0 (by kernel_rfl)
  replace e2 := f4.old e2 (by kernel_rfl)
  replace e3 := f4.old e3 (by kernel_rfl)
  replace e4 := f4.old e4 (by kernel_rfl)
  have e5 : get a4 5 = (.int .i64 (0)) := f4.v 0 rfl
  replace r1 : ownR SpanE 29 (isort lessB xs) (τ4 1) b2x3 w4 := f4.iown 1 rfl rfl
  clear f4
  show Code.wp _ _ _ a4 w4
  refine wp_block ?_
  refine wp_loop (fun a_ w_ => ∃ (i : Nat) (o : Value) (τ : Nat → Foot), (i ≤ (isort lessB xs).length) ∧
        St (Nw w) w 67 a_ w_ τ ∧
        get a_ 4 = o ∧
        get a_ 5 = (.int .i64 ((i : Int))) ∧
        get a_ 0 = v ∧
        get a_ 2 = (.slice none 0 0) ∧
        get a_ 3 = b2x3 ∧
        ownR SpanE 29 (joinG ((isort lessB xs).take i)) (τ 0) o w_ ∧
        ownR SpanE 29 (isort lessB xs) (τ 1) b2x3 w_) (fun a_ _ => (isort lessB xs).length - (intOf (get a_ 5)).toNat) ?_ ?_
  · refine ⟨0, (.slice none 0 0), τ4, ?_, st4, e4, (e5.trans (int_eq (by omega))), e0, e2, e3, ?_, r1⟩
    · omega
    · exact ownR.nil _ _ _ _
  · intro a5 w5 hI
    obtain ⟨i, o, τ5, q0, st5, e4, e5, e0, e2, e3, r0, r1⟩ := hI
    have hjl := joinG_take (xs := isort lessB xs) (k := i)
    have m5 := e5
    refine wp_seq ?_
    refine wp_seq ?_
    refine region_St (bf := [0, 0, 2, 7]) (sp := [
        (det (Nw w) 9 (.int .i64 ((i : Int)))),
            (det (Nw w) 10 b2x3),
            (det (Nw w) 11 (.int .i64 (((isort lessB xs).length : Int)))),
            (det (Nw w) 12 (.bool (decide ((i : Int) < ((isort lessB xs).length : Int)))))])
      [(iown SpanE 29 (Nw w) o (joinG ((isort lessB xs).take i))), (iown SpanE 29 (Nw w) b2x3 (isort lessB xs))] mixed st5 (by kernel_rfl) ⟨r0, r1, trivial⟩
      ⟨Ob.det rfl rfl rfl (fun _ a_ _ _ c => r_move rfl (c.eo e5 (by kernel_rfl))),
           Ob.det rfl rfl rfl (fun _ a_ _ _ c => r_move rfl (c.eo e3 (by kernel_rfl))),
           Ob.det rfl rfl rfl (fun _ a_ _ _ c => r_len rfl Try.underlying22 (c.ev 1 rfl rfl) r1.isSl),
           Ob.det rfl rfl rfl (fun _ a_ _ _ c => r_lss rfl (c.ev 0 rfl rfl) (c.ev 2 rfl rfl)),
       trivial⟩ ?_
    intro a6 w6 τ6 st6 f6
    replace e0 := f6.old e0 (by kernel_rfl)
    replace e2 := f6.old e2 (by kernel_rfl)
    replace e3 := f6.old e3 (by kernel_rfl)
    replace e4 := f6.old e4 (by kernel_rfl)
    replace e5 := f6.old e5 (by kernel_rfl)
    have e12 : get a6 12 = (.bool (decide ((i : Int) < ((isort lessB xs).length : Int)))) := f6.v 3 rfl
    replace r0 : ownR SpanE 29 (joinG ((isort lessB xs).take i)) (τ6 0) o w6 := f6.iown 0 rfl rfl
    replace r1 : ownR SpanE 29 (isort lessB xs) (τ6 1) b2x3 w6 := f6.iown 1 rfl rfl
    clear f6
    show Code.wp _ _ _ a6 w6
    refine wp_cond_split (t := decide ((i : Int) < ((isort lessB xs).length : Int))) e12 (fun hc1 => ?_) (fun hc1 => ?_)
    · try simp only [Bool.and_eq_true, Bool.or_eq_true, decide_eq_true_eq, decide_eq_false_iff_not, Bool.not_eq_true', Bool.and_eq_false_iff, Bool.or_eq_false_iff, Bool.not_eq_false', Int.not_lt, Int.not_le, beq_iff_eq, spanB] at hc1
      refine wp_skip ?_
      show Code.wp _ _ _ a6 w6
      refine wp_seq ?_
      refine wp_block ?_
      refine wp_seq ?_
      refine wp_seq ?_
      refine region_St (bf := [0, 0, 3, 7, 15, 0, 0, 96, 224, 480, 1023]) (sp := [
          (det (Nw w) 15 b2x3),
                (det (Nw w) 16 (.int .i64 ((i : Int)))),
                (det (Nw w) 17 (.pointer (some ((ptrOf b2x3).add (((i : Int) : Int).toNat * 2))))),
                (det (Nw w) 18 (.pointer (some (((ptrOf b2x3).add (((i : Int) : Int).toNat * 2)).add 0)))),
                (det (Nw w) 19 (.int .i64 ((nth (isort lessB xs) ((i : Int))).1))),
                (det (Nw w) 20 b2x3),
                (det (Nw w) 21 (.int .i64 ((i : Int)))),
                (det (Nw w) 22 (.pointer (some ((ptrOf b2x3).add (((i : Int) : Int).toNat * 2))))),
                (det (Nw w) 23 (.pointer (some (((ptrOf b2x3).add (((i : Int) : Int).toNat * 2)).add 1)))),
                (det (Nw w) 24 (.int .i64 ((nth (isort lessB xs) ((i : Int))).2))),
                (det (Nw w) 25 (.bool (decide ((nth (isort lessB xs) ((i : Int))).2 < (nth (isort lessB xs) ((i : Int))).1))))])
        [(iown SpanE 29 (Nw w) o (joinG ((isort lessB xs).take i))), (iown SpanE 29 (Nw w) b2x3 (isort lessB xs))] mixed st6 (by kernel_rfl) ⟨r0, r1, trivial⟩
        ⟨Ob.det rfl rfl rfl (fun _ a_ _ _ c => r_move rfl (c.eo e3 (by kernel_rfl))),
               Ob.det rfl rfl rfl (fun _ a_ _ _ c => r_move rfl (c.eo e5 (by kernel_rfl))),
               Ob.det rfl rfl rfl (fun _ a_ _ _ c => r_indexAddr rfl Try.underlying22 Try.sizeOf29 (c.ev 0 rfl rfl) r1.isSl (c.ev 1 rfl rfl) (by omega) (by omega)),
               Ob.det rfl rfl rfl (fun _ a_ _ _ c => r_fieldAddr rfl Try.underlying29 rfl rfl Try.sizeOf3 (c.ev 2 rfl rfl)),
               Ob.det rfl rfl rfl (fun _ a_ _ _ c => r_load1 rfl Try.isAgg3 (c.ev 3 rfl rfl) (((c.iown 1 rfl rfl (by kernel_rfl)).1.sl).elem (j := 0) (nth_some (by omega) (by omega)) rfl)),
               Ob.det rfl rfl rfl (fun _ a_ _ _ c => r_move rfl (c.eo e3 (by kernel_rfl))),
               Ob.det rfl rfl rfl (fun _ a_ _ _ c => r_move rfl (c.eo e5 (by kernel_rfl))),
               Ob.det rfl rfl rfl (fun _ a_ _ _ c => r_indexAddr rfl Try.underlying22 Try.sizeOf29 (c.ev 5 rfl rfl) r1.isSl (c.ev 6 rfl rfl) (by omega) (by omega)),
               Ob.det rfl rfl rfl (fun _ a_ _ _ c => r_fieldAddr rfl Try.underlying29 rfl rfl Try.sizeOf3 (c.ev 7 rfl rfl)),
               Ob.det rfl rfl rfl (fun _ a_ _ _ c => r_load1 rfl Try.isAgg3 (c.ev 8 rfl rfl) (((c.iown 1 rfl rfl (by kernel_rfl)).1.sl).elem (j := 1) (nth_some (by omega) (by omega)) rfl)),
               Ob.det rfl rfl rfl (fun _ a_ _ _ c => r_gtr rfl (c.ev 4 rfl rfl) (c.ev 9 rfl rfl)),
         trivial⟩ ?_
      intro a7 w7 τ7 st7 f7
      replace e0 := f7.old e0 (by kernel_rfl)
      replace e2 := f7.old e2 (by kernel_rfl)
      replace e3 := f7.old e3 (by kernel_rfl)
      replace e4 := f7.old e4 (by kernel_rfl)
      replace e5 := f7.old e5 (by kernel_rfl)
      replace e12 := f7.old e12 (by kernel_rfl)
      have e25 : get a7 25 = (.bool (decide ((nth (isort lessB xs) ((i : Int))).2 < (nth (isort lessB xs) ((i : Int))).1))) := f7.v 10 rfl
      replace r0 : ownR SpanE 29 (joinG ((isort lessB xs).take i)) (τ7 0) o w7 := f7.iown 0 rfl rfl
      replace r1 : ownR SpanE 29 (isort lessB xs) (τ7 1) b2x3 w7 := f7.iown 1 rfl rfl
      clear f7
      show Code.wp _ _ _ a7 w7
      refine wp_cond_split (t := decide ((nth (isort lessB xs) ((i : Int))).2 < (nth (isort lessB xs) ((i : Int))).1)) e25 (fun hc2 => ?_) (fun hc2 => ?_)
      · have hd2 := hc2; try simp only [Bool.and_eq_true, Bool.or_eq_true, decide_eq_true_eq, decide_eq_false_iff_not, Bool.not_eq_true', Bool.and_eq_false_iff, Bool.or_eq_false_iff, Bool.not_eq_false', Int.not_lt, Int.not_le, beq_iff_eq, spanB] at hd2
        refine wp_exit ?_
        repeat (with_reducible refine then_exit ?_)
        refine exit_here ?_
        show Code.wp _ _ _ a7 w7
        refine region_St (bf := [0, 1, 3]) (sp := [
            (det (Nw w) 13 (.int .i64 ((i : Int)))),
                    (det (Nw w) 14 (.int .i64 ((i : Int) + 1))),
                    (det (Nw w) 5 (.int .i64 ((i : Int) + 1)))])
          [(iown SpanE 29 (Nw w) o (joinG ((isort lessB xs).take i))), (iown SpanE 29 (Nw w) b2x3 (isort lessB xs))] mixed st7 (by kernel_rfl) ⟨r0, r1, trivial⟩
          ⟨Ob.det rfl rfl rfl (fun _ a_ _ _ c => r_move rfl (c.eo e5 (by kernel_rfl))),
                   Ob.det rfl rfl rfl (fun _ a_ _ _ c => r_add rfl (c.ev 0 rfl rfl) rfl (by omega)),
                   Ob.det rfl rfl rfl (fun _ a_ _ _ c => r_assign rfl (c.ev 1 rfl rfl)),
           trivial⟩ ?_
        intro a8 w8 τ8 st8 f8
        replace e0 := f8.old e0 (by kernel_rfl)
        replace e2 := f8.old e2 (by kernel_rfl)
        replace e3 := f8.old e3 (by kernel_rfl)
        replace e4 := f8.old e4 (by kernel_rfl)
        have e5 : get a8 5 = (.int .i64 ((i : Int) + 1)) := f8.v 2 rfl
        replace e12 := f8.old e12 (by kernel_rfl)
        replace e25 := f8.old e25 (by kernel_rfl)
        replace r0 : ownR SpanE 29 (joinG ((isort lessB xs).take i)) (τ8 0) o w8 := f8.iown 0 rfl rfl
        replace r1 : ownR SpanE 29 (isort lessB xs) (τ8 1) b2x3 w8 := f8.iown 1 rfl rfl
        clear f8
        refine ⟨⟨i + 1, o, τ8, ?_, st8, e4, (e5.trans (int_eq (by omega))), e0, e2, e3, ?_, r1⟩, ?_⟩
        · omega
        · exact r0.cast (by first | exact joinG_skip (by omega) (by assumption) | exact joinG_hit (by omega) (by assumption) (by assumption) | exact joinG_miss (by omega) (by assumption) (by assumption))
        · simp only [m5, e5, intOf]; omega
      · have hd2 := hc2; try simp only [Bool.and_eq_true, Bool.or_eq_true, decide_eq_true_eq, decide_eq_false_iff_not, Bool.not_eq_true', Bool.and_eq_false_iff, Bool.or_eq_false_iff, Bool.not_eq_false', Int.not_lt, Int.not_le, beq_iff_eq, spanB] at hd2
        refine wp_skip ?_
        show Code.wp _ _ _ a7 w7
        refine wp_seq ?_
        refine region_St (bf := [0, 1, 3]) (sp := [
            (det (Nw w) 26 o),
                    (det (Nw w) 27 (.int .i64 (((joinG ((isort lessB xs).take i)).length : Int)))),
                    (det (Nw w) 6 (.int .i64 (((joinG ((isort lessB xs).take i)).length : Int))))])
          [(iown SpanE 29 (Nw w) o (joinG ((isort lessB xs).take i))), (iown SpanE 29 (Nw w) b2x3 (isort lessB xs))] mixed st7 (by kernel_rfl) ⟨r0, r1, trivial⟩
          ⟨Ob.det rfl rfl rfl (fun _ a_ _ _ c => r_move rfl (c.eo e4 (by kernel_rfl))),
                   Ob.det rfl rfl rfl (fun _ a_ _ _ c => r_len rfl Try.underlying22 (c.ev 0 rfl rfl) r0.isSl),
                   Ob.det rfl rfl rfl (fun _ a_ _ _ c => r_assign rfl (c.ev 1 rfl rfl)),
           trivial⟩ ?_
        intro a9 w9 τ9 st9 f9
        replace e0 := f9.old e0 (by kernel_rfl)
        replace e2 := f9.old e2 (by kernel_rfl)
        replace e3 := f9.old e3 (by kernel_rfl)
        replace e4 := f9.old e4 (by kernel_rfl)
        replace e5 := f9.old e5 (by kernel_rfl)
        have e6 : get a9 6 = (.int .i64 (((joinG ((isort lessB xs).take i)).length : Int))) := f9.v 2 rfl
        replace e12 := f9.old e12 (by kernel_rfl)
        replace e25 := f9.old e25 (by kernel_rfl)
        replace r0 : ownR SpanE 29 (joinG ((isort lessB xs).take i)) (τ9 0) o w9 := f9.iown 0 rfl rfl
        replace r1 : ownR SpanE 29 (isort lessB xs) (τ9 1) b2x3 w9 := f9.iown 1 rfl rfl
        clear f9
        show Code.wp _ _ _ a9 w9
        refine wp_seq ?_
        refine region_St (bf := [0, 1, 3, 7, 7, 23, 63, 127, 7, 7, 775, 1799, 4095, 8191]) (sp := [
            (det (Nw w) 28 (.int .i64 (((joinG ((isort lessB xs).take i)).length : Int)))),
                    (det (Nw w) 29 (.bool (decide (0 < ((joinG ((isort lessB xs).take i)).length : Int))))),
                    (det (Nw w) 30 (.bool (decide (0 < ((joinG ((isort lessB xs).take i)).length : Int))))),
                    (gdet (Nw w) 31 ((decide (0 < ((joinG ((isort lessB xs).take i)).length : Int))) = true) o),
                    (gdet (Nw w) 32 ((decide (0 < ((joinG ((isort lessB xs).take i)).length : Int))) = true) (.int .i64 (((joinG ((isort lessB xs).take i)).length : Int)))),
                    (gdet (Nw w) 33 ((decide (0 < ((joinG ((isort lessB xs).take i)).length : Int))) = true) (.int .i64 (((joinG ((isort lessB xs).take i)).length : Int) - 1))),
                    (gdet (Nw w) 34 ((decide (0 < ((joinG ((isort lessB xs).take i)).length : Int))) = true) (.pointer (some ((ptrOf o).add ((((joinG ((isort lessB xs).take i)).length : Int) - 1 : Int).toNat * 2))))),
                    (gdet (Nw w) 35 ((decide (0 < ((joinG ((isort lessB xs).take i)).length : Int))) = true) (.agg #[(.int .i64 ((nth (joinG ((isort lessB xs).take i)) (((joinG ((isort lessB xs).take i)).length : Int) - 1)).1)), (.int .i64 ((nth (joinG ((isort lessB xs).take i)) (((joinG ((isort lessB xs).take i)).length : Int) - 1)).2))])),
                    (gdet (Nw w) 36 ((decide (0 < ((joinG ((isort lessB xs).take i)).length : Int))) = true) b2x3),
                    (gdet (Nw w) 37 ((decide (0 < ((joinG ((isort lessB xs).take i)).length : Int))) = true) (.int .i64 ((i : Int)))),
                    (gdet (Nw w) 38 ((decide (0 < ((joinG ((isort lessB xs).take i)).length : Int))) = true) (.pointer (some ((ptrOf b2x3).add (((i : Int) : Int).toNat * 2))))),
                    (gdet (Nw w) 39 ((decide (0 < ((joinG ((isort lessB xs).take i)).length : Int))) = true) (.agg #[(.int .i64 ((nth (isort lessB xs) ((i : Int))).1)), (.int .i64 ((nth (isort lessB xs) ((i : Int))).2))])),
                    (gdet (Nw w) 40 ((decide (0 < ((joinG ((isort lessB xs).take i)).length : Int))) = true) (.bool (touchB (nth (joinG ((isort lessB xs).take i)) (((joinG ((isort lessB xs).take i)).length : Int) - 1)) (nth (isort lessB xs) ((i : Int)))))),
                    (det (Nw w) 41 (.bool ((decide (0 < ((joinG ((isort lessB xs).take i)).length : Int))) && (touchB (nth (joinG ((isort lessB xs).take i)) (((joinG ((isort lessB xs).take i)).length : Int) - 1)) (nth (isort lessB xs) ((i : Int)))))))])
          [(iown SpanE 29 (Nw w) o (joinG ((isort lessB xs).take i))), (iown SpanE 29 (Nw w) b2x3 (isort lessB xs))] mixed st9 (by kernel_rfl) ⟨r0, r1, trivial⟩
          ⟨Ob.det rfl rfl rfl (fun _ a_ _ _ c => r_move rfl (c.eo e6 (by kernel_rfl))),
                   Ob.det rfl rfl rfl (fun _ a_ _ _ c => r_gtr rfl (c.ev 0 rfl rfl) rfl),
                   Ob.det rfl rfl rfl (fun _ a_ _ _ c => r_move rfl (c.ev 1 rfl rfl)),
                   Ob.gdet rfl rfl rfl rfl (gi := 2) (tg := 30) rfl rfl Iff.rfl (fun _ a_ _ _ c hpc => r_move rfl (c.eo e4 (by kernel_rfl))),
                   Ob.gdet rfl rfl rfl rfl (gi := 2) (tg := 30) rfl rfl Iff.rfl (fun _ a_ _ _ c hpc => r_move rfl (c.eo e6 (by kernel_rfl))),
                   Ob.gdet rfl rfl rfl rfl (gi := 2) (tg := 30) rfl rfl Iff.rfl (fun _ a_ _ _ c hpc => r_sub rfl (c.eg 4 rfl rfl hpc) rfl (by have hq0 := hpc; (try simp only [Bool.and_eq_true, Bool.or_eq_true, decide_eq_true_eq, decide_eq_false_iff_not, Bool.not_eq_true', Bool.and_eq_false_iff, Bool.or_eq_false_iff, Bool.not_eq_false', Int.not_lt, Int.not_le, beq_iff_eq, spanB] at hq0); omega)),
                   Ob.gdet rfl rfl rfl rfl (gi := 2) (tg := 30) rfl rfl Iff.rfl (fun _ a_ _ _ c hpc => r_indexAddr rfl Try.underlying22 Try.sizeOf29 (c.eg 3 rfl rfl hpc) r0.isSl (c.eg 5 rfl rfl hpc) (by have hq0 := hpc; (try simp only [Bool.and_eq_true, Bool.or_eq_true, decide_eq_true_eq, decide_eq_false_iff_not, Bool.not_eq_true', Bool.and_eq_false_iff, Bool.or_eq_false_iff, Bool.not_eq_false', Int.not_lt, Int.not_le, beq_iff_eq, spanB] at hq0); omega) (by have hq0 := hpc; (try simp only [Bool.and_eq_true, Bool.or_eq_true, decide_eq_true_eq, decide_eq_false_iff_not, Bool.not_eq_true', Bool.and_eq_false_iff, Bool.or_eq_false_iff, Bool.not_eq_false', Int.not_lt, Int.not_le, beq_iff_eq, spanB] at hq0); omega)),
                   Ob.gdet rfl rfl rfl rfl (gi := 2) (tg := 30) rfl rfl Iff.rfl (fun _ a_ _ _ c hpc => r_loadN (vs := [(.int .i64 ((nth (joinG ((isort lessB xs).take i)) (((joinG ((isort lessB xs).take i)).length : Int) - 1)).1)), (.int .i64 ((nth (joinG ((isort lessB xs).take i)) (((joinG ((isort lessB xs).take i)).length : Int) - 1)).2))]) rfl Try.isAgg29 Try.sizeOf29 (c.eg 6 rfl rfl hpc) rfl (fun _ _ hj => ((c.iown 0 rfl rfl (by kernel_rfl)).1.sl).elem (nth_some (by have hq0 := hpc; (try simp only [Bool.and_eq_true, Bool.or_eq_true, decide_eq_true_eq, decide_eq_false_iff_not, Bool.not_eq_true', Bool.and_eq_false_iff, Bool.or_eq_false_iff, Bool.not_eq_false', Int.not_lt, Int.not_le, beq_iff_eq, spanB] at hq0); omega) (by have hq0 := hpc; (try simp only [Bool.and_eq_true, Bool.or_eq_true, decide_eq_true_eq, decide_eq_false_iff_not, Bool.not_eq_true', Bool.and_eq_false_iff, Bool.or_eq_false_iff, Bool.not_eq_false', Int.not_lt, Int.not_le, beq_iff_eq, spanB] at hq0); omega)) hj)),
                   Ob.gdet rfl rfl rfl rfl (gi := 2) (tg := 30) rfl rfl Iff.rfl (fun _ a_ _ _ c hpc => r_move rfl (c.eo e3 (by kernel_rfl))),
                   Ob.gdet rfl rfl rfl rfl (gi := 2) (tg := 30) rfl rfl Iff.rfl (fun _ a_ _ _ c hpc => r_move rfl (c.eo e5 (by kernel_rfl))),
                   Ob.gdet rfl rfl rfl rfl (gi := 2) (tg := 30) rfl rfl Iff.rfl (fun _ a_ _ _ c hpc => r_indexAddr rfl Try.underlying22 Try.sizeOf29 (c.eg 8 rfl rfl hpc) r1.isSl (c.eg 9 rfl rfl hpc) (by have hq0 := hpc; (try simp only [Bool.and_eq_true, Bool.or_eq_true, decide_eq_true_eq, decide_eq_false_iff_not, Bool.not_eq_true', Bool.and_eq_false_iff, Bool.or_eq_false_iff, Bool.not_eq_false', Int.not_lt, Int.not_le, beq_iff_eq, spanB] at hq0); omega) (by have hq0 := hpc; (try simp only [Bool.and_eq_true, Bool.or_eq_true, decide_eq_true_eq, decide_eq_false_iff_not, Bool.not_eq_true', Bool.and_eq_false_iff, Bool.or_eq_false_iff, Bool.not_eq_false', Int.not_lt, Int.not_le, beq_iff_eq, spanB] at hq0); omega)),
                   Ob.gdet rfl rfl rfl rfl (gi := 2) (tg := 30) rfl rfl Iff.rfl (fun _ a_ _ _ c hpc => r_loadN (vs := [(.int .i64 ((nth (isort lessB xs) ((i : Int))).1)), (.int .i64 ((nth (isort lessB xs) ((i : Int))).2))]) rfl Try.isAgg29 Try.sizeOf29 (c.eg 10 rfl rfl hpc) rfl (fun _ _ hj => ((c.iown 1 rfl rfl (by kernel_rfl)).1.sl).elem (nth_some (by have hq0 := hpc; (try simp only [Bool.and_eq_true, Bool.or_eq_true, decide_eq_true_eq, decide_eq_false_iff_not, Bool.not_eq_true', Bool.and_eq_false_iff, Bool.or_eq_false_iff, Bool.not_eq_false', Int.not_lt, Int.not_le, beq_iff_eq, spanB] at hq0); omega) (by have hq0 := hpc; (try simp only [Bool.and_eq_true, Bool.or_eq_true, decide_eq_true_eq, decide_eq_false_iff_not, Bool.not_eq_true', Bool.and_eq_false_iff, Bool.or_eq_false_iff, Bool.not_eq_false', Int.not_lt, Int.not_le, beq_iff_eq, spanB] at hq0); omega)) hj)),
                   Ob.gcall rfl rfl rfl rfl (gi := 2) (tg := 30) rfl rfl Iff.rfl (fun _ a_ _ _ c hpc => ⟨_, _, (e_call2 rfl rfl Try.call27 (c.eg 7 rfl rfl hpc) (c.eg 11 rfl rfl hpc)), refTouch_c (nth (joinG ((isort lessB xs).take i)) (((joinG ((isort lessB xs).take i)).length : Int) - 1)) (nth (isort lessB xs) ((i : Int))) _⟩),
                   Ob.det rfl rfl rfl (fun _ a_ _ _ c => r_and rfl (c.ev 2 rfl rfl) (fun h => (c.eg 12 rfl rfl h))),
           trivial⟩ ?_
        intro a10 w10 τ10 st10 f10
        replace e0 := f10.old e0 (by kernel_rfl)
        replace e2 := f10.old e2 (by kernel_rfl)
        replace e3 := f10.old e3 (by kernel_rfl)
        replace e4 := f10.old e4 (by kernel_rfl)
        replace e5 := f10.old e5 (by kernel_rfl)
        replace e6 := f10.old e6 (by kernel_rfl)
        replace e12 := f10.old e12 (by kernel_rfl)
        replace e25 := f10.old e25 (by kernel_rfl)
        have e41 : get a10 41 = (.bool ((decide (0 < ((joinG ((isort lessB xs).take i)).length : Int))) && (touchB (nth (joinG ((isort lessB xs).take i)) (((joinG ((isort lessB xs).take i)).length : Int) - 1)) (nth (isort lessB xs) ((i : Int)))))) := f10.v 13 rfl
        replace r0 : ownR SpanE 29 (joinG ((isort lessB xs).take i)) (τ10 0) o w10 := f10.iown 0 rfl rfl
        replace r1 : ownR SpanE 29 (isort lessB xs) (τ10 1) b2x3 w10 := f10.iown 1 rfl rfl
        clear f10
        show Code.wp _ _ _ a10 w10
        refine wp_cond_split (t := (decide (0 < ((joinG ((isort lessB xs).take i)).length : Int))) && (touchB (nth (joinG ((isort lessB xs).take i)) (((joinG ((isort lessB xs).take i)).length : Int) - 1)) (nth (isort lessB xs) ((i : Int))))) e41 (fun hc3 => ?_) (fun hc3 => ?_)
        · have hd3 := hc3; try simp only [Bool.and_eq_true, Bool.or_eq_true, decide_eq_true_eq, decide_eq_false_iff_not, Bool.not_eq_true', Bool.and_eq_false_iff, Bool.or_eq_false_iff, Bool.not_eq_false', Int.not_lt, Int.not_le, beq_iff_eq, spanB] at hd3
          refine region_St (bf := [0, 0, 2, 0, 0, 16, 56, 120, 248, 0, 0, 1536, 3584, 7680, 16376, 32767, 65535, 131071]) (sp := [
              (det (Nw w) 42 o),
                        (det (Nw w) 43 (.int .i64 (((joinG ((isort lessB xs).take i)).length : Int)))),
                        (det (Nw w) 44 (.int .i64 (((joinG ((isort lessB xs).take i)).length : Int) - 1))),
                        (det (Nw w) 45 o),
                        (det (Nw w) 46 (.int .i64 (((joinG ((isort lessB xs).take i)).length : Int)))),
                        (det (Nw w) 47 (.int .i64 (((joinG ((isort lessB xs).take i)).length : Int) - 1))),
                        (det (Nw w) 48 (.pointer (some ((ptrOf o).add ((((joinG ((isort lessB xs).take i)).length : Int) - 1 : Int).toNat * 2))))),
                        (det (Nw w) 49 (.pointer (some (((ptrOf o).add ((((joinG ((isort lessB xs).take i)).length : Int) - 1 : Int).toNat * 2)).add 1)))),
                        (det (Nw w) 50 (.int .i64 ((nth (joinG ((isort lessB xs).take i)) (((joinG ((isort lessB xs).take i)).length : Int) - 1)).2))),
                        (det (Nw w) 51 b2x3),
                        (det (Nw w) 52 (.int .i64 ((i : Int)))),
                        (det (Nw w) 53 (.pointer (some ((ptrOf b2x3).add (((i : Int) : Int).toNat * 2))))),
                        (det (Nw w) 54 (.pointer (some (((ptrOf b2x3).add (((i : Int) : Int).toNat * 2)).add 1)))),
                        (det (Nw w) 55 (.int .i64 ((nth (isort lessB xs) ((i : Int))).2))),
                        (det (Nw w) 56 (.int .i64 (max ((nth (joinG ((isort lessB xs).take i)) (((joinG ((isort lessB xs).take i)).length : Int) - 1)).2) ((nth (isort lessB xs) ((i : Int))).2)))),
                        (det (Nw w) 57 (.pointer (some ((ptrOf o).add ((((joinG ((isort lessB xs).take i)).length : Int) - 1 : Int).toNat * 2))))),
                        (det (Nw w) 58 (.pointer (some (((ptrOf o).add ((((joinG ((isort lessB xs).take i)).length : Int) - 1 : Int).toNat * 2)).add 1)))),
                        (own SpanE 29 (Nw w) 0 4 ((joinG ((isort lessB xs).take i)).set (((joinG ((isort lessB xs).take i)).length : Int) - 1).toNat ((nth (joinG ((isort lessB xs).take i)) (((joinG ((isort lessB xs).take i)).length : Int) - 1)).1, max ((nth (joinG ((isort lessB xs).take i)) (((joinG ((isort lessB xs).take i)).length : Int) - 1)).2) ((nth (isort lessB xs) ((i : Int))).2))))])
            [(iown SpanE 29 (Nw w) o (joinG ((isort lessB xs).take i))), (iown SpanE 29 (Nw w) b2x3 (isort lessB xs))] mixed st10 (by kernel_rfl) ⟨r0, r1, trivial⟩
            ⟨Ob.det rfl rfl rfl (fun _ a_ _ _ c => r_move rfl (c.eo e4 (by kernel_rfl))),
                       Ob.det rfl rfl rfl (fun _ a_ _ _ c => r_move rfl (c.eo e6 (by kernel_rfl))),
                       Ob.det rfl rfl rfl (fun _ a_ _ _ c => r_sub rfl (c.ev 1 rfl rfl) rfl (by omega)),
                       Ob.det rfl rfl rfl (fun _ a_ _ _ c => r_move rfl (c.eo e4 (by kernel_rfl))),
                       Ob.det rfl rfl rfl (fun _ a_ _ _ c => r_move rfl (c.eo e6 (by kernel_rfl))),
                       Ob.det rfl rfl rfl (fun _ a_ _ _ c => r_sub rfl (c.ev 4 rfl rfl) rfl (by omega)),
                       Ob.det rfl rfl rfl (fun _ a_ _ _ c => r_indexAddr rfl Try.underlying22 Try.sizeOf29 (c.ev 3 rfl rfl) r0.isSl (c.ev 5 rfl rfl) (by omega) (by omega)),
                       Ob.det rfl rfl rfl (fun _ a_ _ _ c => r_fieldAddr rfl Try.underlying29 rfl rfl Try.sizeOf3 (c.ev 6 rfl rfl)),
                       Ob.det rfl rfl rfl (fun _ a_ _ _ c => r_load1 rfl Try.isAgg3 (c.ev 7 rfl rfl) (((c.iown 0 rfl rfl (by kernel_rfl)).1.sl).elem (j := 1) (nth_some (by omega) (by omega)) rfl)),
                       Ob.det rfl rfl rfl (fun _ a_ _ _ c => r_move rfl (c.eo e3 (by kernel_rfl))),
                       Ob.det rfl rfl rfl (fun _ a_ _ _ c => r_move rfl (c.eo e5 (by kernel_rfl))),
                       Ob.det rfl rfl rfl (fun _ a_ _ _ c => r_indexAddr rfl Try.underlying22 Try.sizeOf29 (c.ev 9 rfl rfl) r1.isSl (c.ev 10 rfl rfl) (by omega) (by omega)),
                       Ob.det rfl rfl rfl (fun _ a_ _ _ c => r_fieldAddr rfl Try.underlying29 rfl rfl Try.sizeOf3 (c.ev 11 rfl rfl)),
                       Ob.det rfl rfl rfl (fun _ a_ _ _ c => r_load1 rfl Try.isAgg3 (c.ev 12 rfl rfl) (((c.iown 1 rfl rfl (by kernel_rfl)).1.sl).elem (j := 1) (nth_some (by omega) (by omega)) rfl)),
                       Ob.det rfl rfl rfl (fun _ a_ _ _ c => r_max rfl (c.ev 8 rfl rfl) (c.ev 13 rfl rfl)),
                       Ob.det rfl rfl rfl (fun _ a_ _ _ c => r_indexAddr rfl Try.underlying22 Try.sizeOf29 (c.ev 0 rfl rfl) r0.isSl (c.ev 2 rfl rfl) (by omega) (by omega)),
                       Ob.det rfl rfl rfl (fun _ a_ _ _ c => r_fieldAddr rfl Try.underlying29 rfl rfl Try.sizeOf3 (c.ev 15 rfl rfl)),
                       Ob.storeElem (E := SpanE) (i := (((joinG ((isort lessB xs).take i)).length : Int) - 1).toNat) (off := 1) (u := (.int .i64 (max ((nth (joinG ((isort lessB xs).take i)) (((joinG ((isort lessB xs).take i)).length : Int) - 1)).2) ((nth (isort lessB xs) ((i : Int))).2)))) (x := nth (joinG ((isort lessB xs).take i)) (((joinG ((isort lessB xs).take i)).length : Int) - 1)) (x' := ((nth (joinG ((isort lessB xs).take i)) (((joinG ((isort lessB xs).take i)).length : Int) - 1)).1, max ((nth (joinG ((isort lessB xs).take i)) (((joinG ((isort lessB xs).take i)).length : Int) - 1)).2) ((nth (isort lessB xs) ((i : Int))).2))) rfl rfl rfl rfl Try.sizeOf3 (nth_some (by omega) (by (try simp only [List.length_set]); omega)) (Nat.le_of_ble_eq_true rfl) (by simp [Value.cells, Value.oneCell']) rfl (fun _ a_ _ _ c => ⟨by rw [(show get _ 4 = o from c.old e4 (by kernel_rfl))]; exact c.iown 0 rfl rfl (by kernel_rfl), (by rw [(c.ev 16 rfl rfl), add_add, (show get _ 4 = o from c.old e4 (by kernel_rfl))]; rfl), (c.ev 14 rfl rfl)⟩),
             trivial⟩ ?_
          intro a11 w11 τ11 st11 f11
          replace e0 := f11.old e0 (by kernel_rfl)
          replace e2 := f11.old e2 (by kernel_rfl)
          replace e3 := f11.old e3 (by kernel_rfl)
          replace e4 := f11.old e4 (by kernel_rfl)
          replace e5 := f11.old e5 (by kernel_rfl)
          replace e6 := f11.old e6 (by kernel_rfl)
          replace e12 := f11.old e12 (by kernel_rfl)
          replace e25 := f11.old e25 (by kernel_rfl)
          replace e41 := f11.old e41 (by kernel_rfl)
          have r0 : ownR SpanE 29 ((joinG ((isort lessB xs).take i)).set (((joinG ((isort lessB xs).take i)).length : Int) - 1).toNat ((nth (joinG ((isort lessB xs).take i)) (((joinG ((isort lessB xs).take i)).length : Int) - 1)).1, max ((nth (joinG ((isort lessB xs).take i)) (((joinG ((isort lessB xs).take i)).length : Int) - 1)).2) ((nth (isort lessB xs) ((i : Int))).2))) (τ11 0) o w11 := f11.rown 17 rfl rfl e4
          replace r1 : ownR SpanE 29 (isort lessB xs) (τ11 1) b2x3 w11 := f11.iown 1 rfl rfl
          clear f11
          show _
          show Code.wp _ _ _ a11 w11
          refine region_St (bf := [0, 1, 3]) (sp := [
              (det (Nw w) 13 (.int .i64 ((i : Int)))),
                        (det (Nw w) 14 (.int .i64 ((i : Int) + 1))),
                        (det (Nw w) 5 (.int .i64 ((i : Int) + 1)))])
            [(iown SpanE 29 (Nw w) o ((joinG ((isort lessB xs).take i)).set (((joinG ((isort lessB xs).take i)).length : Int) - 1).toNat ((nth (joinG ((isort lessB xs).take i)) (((joinG ((isort lessB xs).take i)).length : Int) - 1)).1, max ((nth (joinG ((isort lessB xs).take i)) (((joinG ((isort lessB xs).take i)).length : Int) - 1)).2) ((nth (isort lessB xs) ((i : Int))).2)))), (iown SpanE 29 (Nw w) b2x3 (isort lessB xs))] mixed st11 (by kernel_rfl) ⟨r0, r1, trivial⟩
            ⟨Ob.det rfl rfl rfl (fun _ a_ _ _ c => r_move rfl (c.eo e5 (by kernel_rfl))),
                       Ob.det rfl rfl rfl (fun _ a_ _ _ c => r_add rfl (c.ev 0 rfl rfl) rfl (by omega)),
                       Ob.det rfl rfl rfl (fun _ a_ _ _ c => r_assign rfl (c.ev 1 rfl rfl)),
             trivial⟩ ?_
          intro a12 w12 τ12 st12 f12
          replace e0 := f12.old e0 (by kernel_rfl)
          replace e2 := f12.old e2 (by kernel_rfl)
          replace e3 := f12.old e3 (by kernel_rfl)
          replace e4 := f12.old e4 (by kernel_rfl)
          have e5 : get a12 5 = (.int .i64 ((i : Int) + 1)) := f12.v 2 rfl
          replace e6 := f12.old e6 (by kernel_rfl)
          replace e12 := f12.old e12 (by kernel_rfl)
          replace e25 := f12.old e25 (by kernel_rfl)
          replace e41 := f12.old e41 (by kernel_rfl)
          replace r0 : ownR SpanE 29 ((joinG ((isort lessB xs).take i)).set (((joinG ((isort lessB xs).take i)).length : Int) - 1).toNat ((nth (joinG ((isort lessB xs).take i)) (((joinG ((isort lessB xs).take i)).length : Int) - 1)).1, max ((nth (joinG ((isort lessB xs).take i)) (((joinG ((isort lessB xs).take i)).length : Int) - 1)).2) ((nth (isort lessB xs) ((i : Int))).2))) (τ12 0) o w12 := f12.iown 0 rfl rfl
          replace r1 : ownR SpanE 29 (isort lessB xs) (τ12 1) b2x3 w12 := f12.iown 1 rfl rfl
          clear f12
          refine ⟨⟨i + 1, o, τ12, ?_, st12, e4, (e5.trans (int_eq (by omega))), e0, e2, e3, ?_, r1⟩, ?_⟩
          · omega
          · exact r0.cast (by first | exact joinG_skip (by omega) (by assumption) | exact joinG_hit (by omega) (by assumption) (by assumption) | exact joinG_miss (by omega) (by assumption) (by assumption))
          · simp only [m5, e5, intOf]; omega
        · have hd3 := hc3; try simp only [Bool.and_eq_true, Bool.or_eq_true, decide_eq_true_eq, decide_eq_false_iff_not, Bool.not_eq_true', Bool.and_eq_false_iff, Bool.or_eq_false_iff, Bool.not_eq_false', Int.not_lt, Int.not_le, beq_iff_eq, spanB] at hd3
          refine region_St (bf := [0, 0, 0, 6, 14, 30, 63, 127]) (sp := [
              (det (Nw w) 59 o),
                        (det (Nw w) 60 b2x3),
                        (det (Nw w) 61 (.int .i64 ((i : Int)))),
                        (det (Nw w) 62 (.pointer (some ((ptrOf b2x3).add (((i : Int) : Int).toNat * 2))))),
                        (det (Nw w) 63 (.agg #[(.int .i64 ((nth (isort lessB xs) ((i : Int))).1)), (.int .i64 ((nth (isort lessB xs) ((i : Int))).2))])),
                        (own SpanE 29 (Nw w) 2 64 ([(nth (isort lessB xs) ((i : Int)))])),
                        (own SpanE 29 (Nw w) 0 65 ((joinG ((isort lessB xs).take i)) ++ ([(nth (isort lessB xs) ((i : Int)))]))),
                        (own SpanE 29 (Nw w) 0 4 ((joinG ((isort lessB xs).take i)) ++ ([(nth (isort lessB xs) ((i : Int)))])))])
            [(iown SpanE 29 (Nw w) o (joinG ((isort lessB xs).take i))), (iown SpanE 29 (Nw w) b2x3 (isort lessB xs))] mixed st10 (by kernel_rfl) ⟨r0, r1, trivial⟩
            ⟨Ob.det rfl rfl rfl (fun _ a_ _ _ c => r_move rfl (c.eo e4 (by kernel_rfl))),
                       Ob.det rfl rfl rfl (fun _ a_ _ _ c => r_move rfl (c.eo e3 (by kernel_rfl))),
                       Ob.det rfl rfl rfl (fun _ a_ _ _ c => r_move rfl (c.eo e5 (by kernel_rfl))),
                       Ob.det rfl rfl rfl (fun _ a_ _ _ c => r_indexAddr rfl Try.underlying22 Try.sizeOf29 (c.ev 1 rfl rfl) r1.isSl (c.ev 2 rfl rfl) (by omega) (by omega)),
                       Ob.det rfl rfl rfl (fun _ a_ _ _ c => r_loadN (vs := [(.int .i64 ((nth (isort lessB xs) ((i : Int))).1)), (.int .i64 ((nth (isort lessB xs) ((i : Int))).2))]) rfl Try.isAgg29 Try.sizeOf29 (c.ev 3 rfl rfl) rfl (fun _ _ hj => ((c.iown 1 rfl rfl (by kernel_rfl)).1.sl).elem (nth_some (by omega) (by omega)) hj)),
                       Ob.buildSlice (cells := #[(.int .i64 ((nth (isort lessB xs) ((i : Int))).1)), (.int .i64 ((nth (isort lessB xs) ((i : Int))).2))]) rfl rfl rfl rfl Try.underlying22 Try.sizeOf29 Try.zeroValue29 rfl (by decide) (by decide) (fun _ a_ _ _ c => by simp only [List.map_toArray, List.map_cons, List.map_nil, (show a_.eval (.tmp 63) = (.agg #[(.int .i64 ((nth (isort lessB xs) ((i : Int))).1)), (.int .i64 ((nth (isort lessB xs) ((i : Int))).2))]) from (c.ev 4 rfl rfl))]; kernel_rfl) rfl,
                       Ob.append (t0 := 4) rfl rfl rfl rfl Try.underlying22 (i := Try.t29) rfl rfl rfl rfl (by simp only [maxLen]; (try simp); omega) (by show _ * 16 ≤ _; (try simp); omega) (fun _ _ _ _ c => ⟨by rw [(show get _ 4 = o from c.old e4 (by kernel_rfl))]; exact c.iown 0 rfl rfl (by kernel_rfl), (c.ev 0 rfl rfl).trans (show o = get _ 4 from (c.old e4 (by kernel_rfl)).symm), ⟨_, rfl, (c.rown 5 rfl rfl (by kernel_rfl)).1.sl⟩⟩),
                       Ob.moveT (t0 := 65) rfl rfl rfl rfl rfl (.inr rfl) (fun _ _ _ _ c => ⟨c.rown 6 rfl rfl (by kernel_rfl), rfl⟩),
             trivial⟩ ?_
          intro a13 w13 τ13 st13 f13
          obtain ⟨b13x64, e64⟩ : ∃ b, get a13 64 = b := ⟨_, rfl⟩
          obtain ⟨b13x4, e4⟩ : ∃ b, get a13 4 = b := ⟨_, rfl⟩
          replace e0 := f13.old e0 (by kernel_rfl)
          replace e2 := f13.old e2 (by kernel_rfl)
          replace e3 := f13.old e3 (by kernel_rfl)
          replace e5 := f13.old e5 (by kernel_rfl)
          replace e6 := f13.old e6 (by kernel_rfl)
          replace e12 := f13.old e12 (by kernel_rfl)
          replace e25 := f13.old e25 (by kernel_rfl)
          replace e41 := f13.old e41 (by kernel_rfl)
          have r0 : ownR SpanE 29 ((joinG ((isort lessB xs).take i)) ++ ([(nth (isort lessB xs) ((i : Int)))])) (τ13 0) b13x4 w13 := f13.rown 7 rfl rfl e4
          replace r1 : ownR SpanE 29 (isort lessB xs) (τ13 1) b2x3 w13 := f13.iown 1 rfl rfl
          have r2 : ownR SpanE 29 ([(nth (isort lessB xs) ((i : Int)))]) (τ13 2) b13x64 w13 := f13.rown 5 rfl rfl e64
          clear f13
          show _
          show Code.wp _ _ _ a13 w13
          refine region_St (bf := [0, 1, 3]) (sp := [
              (det (Nw w) 13 (.int .i64 ((i : Int)))),
                        (det (Nw w) 14 (.int .i64 ((i : Int) + 1))),
                        (det (Nw w) 5 (.int .i64 ((i : Int) + 1)))])
            [(iown SpanE 29 (Nw w) b13x4 ((joinG ((isort lessB xs).take i)) ++ ([(nth (isort lessB xs) ((i : Int)))]))), (iown SpanE 29 (Nw w) b2x3 (isort lessB xs)), (iown SpanE 29 (Nw w) b13x64 ([(nth (isort lessB xs) ((i : Int)))]))] mixed st13 (by kernel_rfl) ⟨r0, r1, r2, trivial⟩
            ⟨Ob.det rfl rfl rfl (fun _ a_ _ _ c => r_move rfl (c.eo e5 (by kernel_rfl))),
                       Ob.det rfl rfl rfl (fun _ a_ _ _ c => r_add rfl (c.ev 0 rfl rfl) rfl (by omega)),
                       Ob.det rfl rfl rfl (fun _ a_ _ _ c => r_assign rfl (c.ev 1 rfl rfl)),
             trivial⟩ ?_
          intro a14 w14 τ14 st14 f14
          replace e0 := f14.old e0 (by kernel_rfl)
          replace e2 := f14.old e2 (by kernel_rfl)
          replace e3 := f14.old e3 (by kernel_rfl)
          replace e4 := f14.old e4 (by kernel_rfl)
          have e5 : get a14 5 = (.int .i64 ((i : Int) + 1)) := f14.v 2 rfl
          replace e6 := f14.old e6 (by kernel_rfl)
          replace e12 := f14.old e12 (by kernel_rfl)
          replace e25 := f14.old e25 (by kernel_rfl)
          replace e41 := f14.old e41 (by kernel_rfl)
          replace r0 : ownR SpanE 29 ((joinG ((isort lessB xs).take i)) ++ ([(nth (isort lessB xs) ((i : Int)))])) (τ14 0) b13x4 w14 := f14.iown 0 rfl rfl
          replace r1 : ownR SpanE 29 (isort lessB xs) (τ14 1) b2x3 w14 := f14.iown 1 rfl rfl
          replace r2 : ownR SpanE 29 ([(nth (isort lessB xs) ((i : Int)))]) (τ14 2) b13x64 w14 := f14.iown 2 rfl rfl
          clear f14
          refine ⟨⟨i + 1, b13x4, τ14, ?_, st14, e4, (e5.trans (int_eq (by omega))), e0, e2, e3, ?_, r1⟩, ?_⟩
          · omega
          · exact r0.cast (by first | exact joinG_skip (by omega) (by assumption) | exact joinG_hit (by omega) (by assumption) (by assumption) | exact joinG_miss (by omega) (by assumption) (by assumption))
          · simp only [m5, e5, intOf]; omega
    · try simp only [Bool.and_eq_true, Bool.or_eq_true, decide_eq_true_eq, decide_eq_false_iff_not, Bool.not_eq_true', Bool.and_eq_false_iff, Bool.or_eq_false_iff, Bool.not_eq_false', Int.not_lt, Int.not_le, beq_iff_eq, spanB] at hc1
      refine wp_exit ?_
      repeat (with_reducible refine then_exit ?_)
      refine exit_here ?_
      show Code.wp _ _ _ a6 w6
      refine wp_seq ?_
      refine region_St (bf := [0, 1]) (sp := [
          (det (Nw w) 66 o),
                (det (Nw w) 2 o)])
        [(iown SpanE 29 (Nw w) o (joinG ((isort lessB xs).take i))), (iown SpanE 29 (Nw w) b2x3 (isort lessB xs))] mixed st6 (by kernel_rfl) ⟨r0, r1, trivial⟩
        ⟨Ob.det rfl rfl rfl (fun _ a_ _ _ c => r_move rfl (c.eo e4 (by kernel_rfl))),
               Ob.det rfl rfl rfl (fun _ a_ _ _ c => r_assign rfl (c.ev 0 rfl rfl)),
         trivial⟩ ?_
      intro a15 w15 τ15 st15 f15
      replace e0 := f15.old e0 (by kernel_rfl)
      have e2 : get a15 2 = o := f15.v 1 rfl
      replace e3 := f15.old e3 (by kernel_rfl)
      replace e4 := f15.old e4 (by kernel_rfl)
      replace e5 := f15.old e5 (by kernel_rfl)
      replace e12 := f15.old e12 (by kernel_rfl)
      replace r0 : ownR SpanE 29 (joinG ((isort lessB xs).take i)) (τ15 0) o w15 := f15.iown 0 rfl rfl
      replace r1 : ownR SpanE 29 (isort lessB xs) (τ15 1) b2x3 w15 := f15.iown 1 rfl rfl
      clear f15
      show Code.wp _ _ _ a15 w15
      refine wp_ret ?_
      repeat (first | with_reducible refine then_ret ?_ | with_reducible refine block_ret ?_)
      refine ret1 (fn := Try.f14) rfl st15.defers e2 ?_
      replace r0 := r0.cast (show unionR xs = _ from by rw [unionR, List.take_of_length_le (l := isort lessB xs) (by omega)])
      exact ⟨_, rfl, st15.ext0, r0.1, fun g_ h_ => (st15.bnd _ g_ (r0.2 g_ h_)).1⟩

set_option maxRecDepth 100000 in
theorem refApart_c (v : Value) (xs : List (Int × Int)) (w : World) (hS : SlT SpanE w v xs) (hbig : xs.length ≤ 1000000000000) : Calls Try.prog 18 #[v] w (fun e w' => e = .returned (.bool (apartR (isort lessB xs))) ∧ Ext none' w w') := by
  refine enter (n := 54) Try.func18 rfl rfl (Nat.le_of_ble_eq_true rfl) ?_
  intro a0 τ0 ha st0
  have e0 : get a0 0 = v := ha 0 _ rfl
  clear ha
  have hle := hS.le
  refine wp_seq ?_
  refine region_St (bf := [0]) (sp := [
      (det (Nw w) 2 (.bool (false)))])
    [] mixed st0 (by kernel_rfl) trivial
    ⟨Ob.det rfl rfl rfl (fun _ a_ _ _ c => r_assign rfl rfl),
     trivial⟩ ?_
  intro a1 w1 τ1 st1 f1
  replace e0 := f1.old e0 (by kernel_rfl)
  have e2 : get a1 2 = (.bool (false)) := f1.v 0 rfl
  clear f1
  show Code.wp _ _ _ a1 w1
  refine wp_seq ?_
  refine region_St (bf := [0, 1, 3]) (sp := [
      (det (Nw w) 5 v),
        (own SpanE 29 (Nw w) 1 6 (isort lessB xs)),
        (own SpanE 29 (Nw w) 1 3 (isort lessB xs))])
    [] mixed st1 (by kernel_rfl) trivial
    ⟨Ob.det rfl rfl rfl (fun _ a_ _ _ c => r_move rfl (c.eo e0 (by kernel_rfl))),
       Ob.callOwn rfl rfl rfl (fun _ a_ _ _ c => ⟨_, _, (e_call1 rfl rfl Try.call30 (c.ev 0 rfl rfl)), refSort_c v xs _ (hS.at (st1.ext.trans c.J.ext)) (by omega)⟩),
       Ob.moveT (t0 := 6) rfl rfl rfl rfl rfl (.inr rfl) (fun _ _ _ _ c => ⟨c.rown 1 rfl rfl (by kernel_rfl), rfl⟩),
     trivial⟩ ?_
  intro a2 w2 τ2 st2 f2
  obtain ⟨b2x3, e3⟩ : ∃ b, get a2 3 = b := ⟨_, rfl⟩
  replace e0 := f2.old e0 (by kernel_rfl)
  replace e2 := f2.old e2 (by kernel_rfl)
  have r1 : ownR SpanE 29 (isort lessB xs) (τ2 1) b2x3 w2 := f2.rown 2 rfl rfl e3
  clear f2
  have hil := isort_length (lt := lessB) xs
  show Code.wp _ _ _ a2 w2
  refine wp_seq ?_
  refine wp_seq ?_
  refine region_St (bf := [0]) (sp := [
      (det (Nw w) 4 (.int .i64 (0)))])
    [(Ini.any (Nw w)), (iown SpanE 29 (Nw w) b2x3 (isort lessB xs))] mixed st2 (by kernel_rfl) ⟨trivial, r1, trivial⟩
    ⟨Ob.det rfl rfl rfl (fun _ a_ _ _ c => r_assign rfl rfl),
     trivial⟩ ?_
  intro a3 w3 τ3 st3 f3
  replace e0 := f3.old e0 (by kernel_rfl)
  replace e2 := f3.old e2 (by kernel_rfl)
  replace e3 := f3.old e3 (by kernel_rfl)
  have e4 : get a3 4 = (.int .i64 (0)) := f3.v 0 rfl
  replace r1 : ownR SpanE 29 (isort lessB xs) (τ3 1) b2x3 w3 := f3.iown 1 rfl rfl
  clear f3
  show Code.wp _ _ _ a3 w3
  refine wp_block ?_
  refine wp_loop (fun a_ w_ => ∃ (k : Nat) (τ : Nat → Foot), (k ≤ (isort lessB xs).length) ∧
        (∀ i < k, badR (isort lessB xs) (i : Int) = false) ∧
        St (Nw w) w 54 a_ w_ τ ∧
        get a_ 4 = (.int .i64 ((k : Int))) ∧
        get a_ 0 = v ∧
        get a_ 3 = b2x3 ∧
        ownR SpanE 29 (isort lessB xs) (τ 1) b2x3 w_) (fun a_ _ => (isort lessB xs).length - (intOf (get a_ 4)).toNat) ?_ ?_
  · refine ⟨0, τ3, ?_, ?_, st3, (e4.trans (int_eq (by omega))), e0, e3, r1⟩
    · omega
    · intro i hi; omega
  · intro a4 w4 hI
    obtain ⟨k, τ4, q0, q1, st4, e4, e0, e3, r1⟩ := hI
    have m4 := e4
    refine wp_seq ?_
    refine wp_seq ?_
    refine region_St (bf := [0, 0, 2, 7]) (sp := [
        (det (Nw w) 7 (.int .i64 ((k : Int)))),
            (det (Nw w) 8 b2x3),
            (det (Nw w) 9 (.int .i64 (((isort lessB xs).length : Int)))),
            (det (Nw w) 10 (.bool (decide ((k : Int) < ((isort lessB xs).length : Int)))))])
      [(Ini.any (Nw w)), (iown SpanE 29 (Nw w) b2x3 (isort lessB xs))] mixed st4 (by kernel_rfl) ⟨trivial, r1, trivial⟩
      ⟨Ob.det rfl rfl rfl (fun _ a_ _ _ c => r_move rfl (c.eo e4 (by kernel_rfl))),
           Ob.det rfl rfl rfl (fun _ a_ _ _ c => r_move rfl (c.eo e3 (by kernel_rfl))),
           Ob.det rfl rfl rfl (fun _ a_ _ _ c => r_len rfl Try.underlying22 (c.ev 1 rfl rfl) r1.isSl),
           Ob.det rfl rfl rfl (fun _ a_ _ _ c => r_lss rfl (c.ev 0 rfl rfl) (c.ev 2 rfl rfl)),
       trivial⟩ ?_
    intro a5 w5 τ5 st5 f5
    replace e0 := f5.old e0 (by kernel_rfl)
    replace e3 := f5.old e3 (by kernel_rfl)
    replace e4 := f5.old e4 (by kernel_rfl)
    have e10 : get a5 10 = (.bool (decide ((k : Int) < ((isort lessB xs).length : Int)))) := f5.v 3 rfl
    replace r1 : ownR SpanE 29 (isort lessB xs) (τ5 1) b2x3 w5 := f5.iown 1 rfl rfl
    clear f5
    show Code.wp _ _ _ a5 w5
    refine wp_cond_split (t := decide ((k : Int) < ((isort lessB xs).length : Int))) e10 (fun hc1 => ?_) (fun hc1 => ?_)
    · try simp only [Bool.and_eq_true, Bool.or_eq_true, decide_eq_true_eq, decide_eq_false_iff_not, Bool.not_eq_true', Bool.and_eq_false_iff, Bool.or_eq_false_iff, Bool.not_eq_false', Int.not_lt, Int.not_le, beq_iff_eq, spanB] at hc1
      refine wp_skip ?_
      show Code.wp _ _ _ a5 w5
      refine wp_seq ?_
      refine wp_block ?_
      refine wp_seq ?_
      refine wp_seq ?_
      refine region_St (bf := [0, 0, 3, 7, 15, 0, 0, 96, 224, 480, 1023]) (sp := [
          (det (Nw w) 13 b2x3),
                (det (Nw w) 14 (.int .i64 ((k : Int)))),
                (det (Nw w) 15 (.pointer (some ((ptrOf b2x3).add (((k : Int) : Int).toNat * 2))))),
                (det (Nw w) 16 (.pointer (some (((ptrOf b2x3).add (((k : Int) : Int).toNat * 2)).add 0)))),
                (det (Nw w) 17 (.int .i64 ((nth (isort lessB xs) ((k : Int))).1))),
                (det (Nw w) 18 b2x3),
                (det (Nw w) 19 (.int .i64 ((k : Int)))),
                (det (Nw w) 20 (.pointer (some ((ptrOf b2x3).add (((k : Int) : Int).toNat * 2))))),
                (det (Nw w) 21 (.pointer (some (((ptrOf b2x3).add (((k : Int) : Int).toNat * 2)).add 1)))),
                (det (Nw w) 22 (.int .i64 ((nth (isort lessB xs) ((k : Int))).2))),
                (det (Nw w) 23 (.bool (decide ((nth (isort lessB xs) ((k : Int))).2 < (nth (isort lessB xs) ((k : Int))).1))))])
        [(Ini.any (Nw w)), (iown SpanE 29 (Nw w) b2x3 (isort lessB xs))] mixed st5 (by kernel_rfl) ⟨trivial, r1, trivial⟩
        ⟨Ob.det rfl rfl rfl (fun _ a_ _ _ c => r_move rfl (c.eo e3 (by kernel_rfl))),
               Ob.det rfl rfl rfl (fun _ a_ _ _ c => r_move rfl (c.eo e4 (by kernel_rfl))),
               Ob.det rfl rfl rfl (fun _ a_ _ _ c => r_indexAddr rfl Try.underlying22 Try.sizeOf29 (c.ev 0 rfl rfl) r1.isSl (c.ev 1 rfl rfl) (by omega) (by omega)),
               Ob.det rfl rfl rfl (fun _ a_ _ _ c => r_fieldAddr rfl Try.underlying29 rfl rfl Try.sizeOf3 (c.ev 2 rfl rfl)),
               Ob.det rfl rfl rfl (fun _ a_ _ _ c => r_load1 rfl Try.isAgg3 (c.ev 3 rfl rfl) (((c.iown 1 rfl rfl (by kernel_rfl)).1.sl).elem (j := 0) (nth_some (by omega) (by omega)) rfl)),
               Ob.det rfl rfl rfl (fun _ a_ _ _ c => r_move rfl (c.eo e3 (by kernel_rfl))),
               Ob.det rfl rfl rfl (fun _ a_ _ _ c => r_move rfl (c.eo e4 (by kernel_rfl))),
               Ob.det rfl rfl rfl (fun _ a_ _ _ c => r_indexAddr rfl Try.underlying22 Try.sizeOf29 (c.ev 5 rfl rfl) r1.isSl (c.ev 6 rfl rfl) (by omega) (by omega)),
               Ob.det rfl rfl rfl (fun _ a_ _ _ c => r_fieldAddr rfl Try.underlying29 rfl rfl Try.sizeOf3 (c.ev 7 rfl rfl)),
               Ob.det rfl rfl rfl (fun _ a_ _ _ c => r_load1 rfl Try.isAgg3 (c.ev 8 rfl rfl) (((c.iown 1 rfl rfl (by kernel_rfl)).1.sl).elem (j := 1) (nth_some (by omega) (by omega)) rfl)),
               Ob.det rfl rfl rfl (fun _ a_ _ _ c => r_gtr rfl (c.ev 4 rfl rfl) (c.ev 9 rfl rfl)),
         trivial⟩ ?_
      intro a6 w6 τ6 st6 f6
      replace e0 := f6.old e0 (by kernel_rfl)
      replace e3 := f6.old e3 (by kernel_rfl)
      replace e4 := f6.old e4 (by kernel_rfl)
      replace e10 := f6.old e10 (by kernel_rfl)
      have e23 : get a6 23 = (.bool (decide ((nth (isort lessB xs) ((k : Int))).2 < (nth (isort lessB xs) ((k : Int))).1))) := f6.v 10 rfl
      replace r1 : ownR SpanE 29 (isort lessB xs) (τ6 1) b2x3 w6 := f6.iown 1 rfl rfl
      clear f6
      show Code.wp _ _ _ a6 w6
      refine wp_cond_split (t := decide ((nth (isort lessB xs) ((k : Int))).2 < (nth (isort lessB xs) ((k : Int))).1)) e23 (fun hc2 => ?_) (fun hc2 => ?_)
      · have hd2 := hc2; try simp only [Bool.and_eq_true, Bool.or_eq_true, decide_eq_true_eq, decide_eq_false_iff_not, Bool.not_eq_true', Bool.and_eq_false_iff, Bool.or_eq_false_iff, Bool.not_eq_false', Int.not_lt, Int.not_le, beq_iff_eq, spanB] at hd2
        refine wp_seq ?_
        refine region_St (bf := [0]) (sp := [
            (det (Nw w) 2 (.bool (false)))])
          [(Ini.any (Nw w)), (iown SpanE 29 (Nw w) b2x3 (isort lessB xs))] mixed st6 (by kernel_rfl) ⟨trivial, r1, trivial⟩
          ⟨Ob.det rfl rfl rfl (fun _ a_ _ _ c => r_assign rfl rfl),
           trivial⟩ ?_
        intro a7 w7 τ7 st7 f7
        replace e0 := f7.old e0 (by kernel_rfl)
        have e2 : get a7 2 = (.bool (false)) := f7.v 0 rfl
        replace e3 := f7.old e3 (by kernel_rfl)
        replace e4 := f7.old e4 (by kernel_rfl)
        replace e10 := f7.old e10 (by kernel_rfl)
        replace e23 := f7.old e23 (by kernel_rfl)
        replace r1 : ownR SpanE 29 (isort lessB xs) (τ7 1) b2x3 w7 := f7.iown 1 rfl rfl
        clear f7
        show Code.wp _ _ _ a7 w7
        refine wp_ret ?_
        repeat (first | with_reducible refine then_ret ?_ | with_reducible refine block_ret ?_)
        refine ret1 (fn := Try.f18) rfl st7.defers e2 ?_
        exact ⟨congrArg _ (congrArg _ (by exact (apartR_no (k := k) (by omega) (by first | exact badR_1 (by assumption) | exact badR_2 (by assumption))).symm)), st7.ext0⟩
      · have hd2 := hc2; try simp only [Bool.and_eq_true, Bool.or_eq_true, decide_eq_true_eq, decide_eq_false_iff_not, Bool.not_eq_true', Bool.and_eq_false_iff, Bool.or_eq_false_iff, Bool.not_eq_false', Int.not_lt, Int.not_le, beq_iff_eq, spanB] at hd2
        refine wp_skip ?_
        show Code.wp _ _ _ a6 w6
        refine wp_seq ?_
        refine region_St (bf := [0, 1, 3, 7, 7, 31, 63, 127, 7, 7, 519, 1799, 3847, 7943, 16383, 32767, 65535, 65535, 262143, 524287, 1048575, 65535, 65535, 4259839, 14745599, 31522815, 65077247, 134217727, 268435455, 536870911]) (sp := [
            (det (Nw w) 24 (.int .i64 ((k : Int)))),
                    (det (Nw w) 25 (.bool (decide (0 < (k : Int))))),
                    (det (Nw w) 26 (.bool (decide (0 < (k : Int))))),
                    (gdet (Nw w) 27 ((decide (0 < (k : Int))) = true) b2x3),
                    (gdet (Nw w) 28 ((decide (0 < (k : Int))) = true) (.int .i64 ((k : Int)))),
                    (gdet (Nw w) 29 ((decide (0 < (k : Int))) = true) (.pointer (some ((ptrOf b2x3).add (((k : Int) : Int).toNat * 2))))),
                    (gdet (Nw w) 30 ((decide (0 < (k : Int))) = true) (.pointer (some (((ptrOf b2x3).add (((k : Int) : Int).toNat * 2)).add 0)))),
                    (gdet (Nw w) 31 ((decide (0 < (k : Int))) = true) (.int .i64 ((nth (isort lessB xs) ((k : Int))).1))),
                    (gdet (Nw w) 32 ((decide (0 < (k : Int))) = true) b2x3),
                    (gdet (Nw w) 33 ((decide (0 < (k : Int))) = true) (.int .i64 ((k : Int)))),
                    (gdet (Nw w) 34 ((decide (0 < (k : Int))) = true) (.int .i64 ((k : Int) - 1))),
                    (gdet (Nw w) 35 ((decide (0 < (k : Int))) = true) (.pointer (some ((ptrOf b2x3).add (((k : Int) - 1 : Int).toNat * 2))))),
                    (gdet (Nw w) 36 ((decide (0 < (k : Int))) = true) (.pointer (some (((ptrOf b2x3).add (((k : Int) - 1 : Int).toNat * 2)).add 0)))),
                    (gdet (Nw w) 37 ((decide (0 < (k : Int))) = true) (.int .i64 ((nth (isort lessB xs) ((k : Int) - 1)).1))),
                    (gdet (Nw w) 38 ((decide (0 < (k : Int))) = true) (.bool (decide ((nth (isort lessB xs) ((k : Int))).1 ≤ (nth (isort lessB xs) ((k : Int) - 1)).1)))),
                    (gdet (Nw w) 39 ((decide (0 < (k : Int))) = true) (.bool (decide ((nth (isort lessB xs) ((k : Int))).1 ≤ (nth (isort lessB xs) ((k : Int) - 1)).1)))),
                    (gdet (Nw w) 40 (((decide (0 < (k : Int))) = true) ∧ (decide ((nth (isort lessB xs) ((k : Int))).1 ≤ (nth (isort lessB xs) ((k : Int) - 1)).1)) = false) b2x3),
                    (gdet (Nw w) 41 (((decide (0 < (k : Int))) = true) ∧ (decide ((nth (isort lessB xs) ((k : Int))).1 ≤ (nth (isort lessB xs) ((k : Int) - 1)).1)) = false) (.int .i64 ((k : Int)))),
                    (gdet (Nw w) 42 (((decide (0 < (k : Int))) = true) ∧ (decide ((nth (isort lessB xs) ((k : Int))).1 ≤ (nth (isort lessB xs) ((k : Int) - 1)).1)) = false) (.pointer (some ((ptrOf b2x3).add (((k : Int) : Int).toNat * 2))))),
                    (gdet (Nw w) 43 (((decide (0 < (k : Int))) = true) ∧ (decide ((nth (isort lessB xs) ((k : Int))).1 ≤ (nth (isort lessB xs) ((k : Int) - 1)).1)) = false) (.pointer (some (((ptrOf b2x3).add (((k : Int) : Int).toNat * 2)).add 0)))),
                    (gdet (Nw w) 44 (((decide (0 < (k : Int))) = true) ∧ (decide ((nth (isort lessB xs) ((k : Int))).1 ≤ (nth (isort lessB xs) ((k : Int) - 1)).1)) = false) (.int .i64 ((nth (isort lessB xs) ((k : Int))).1))),
                    (gdet (Nw w) 45 (((decide (0 < (k : Int))) = true) ∧ (decide ((nth (isort lessB xs) ((k : Int))).1 ≤ (nth (isort lessB xs) ((k : Int) - 1)).1)) = false) b2x3),
                    (gdet (Nw w) 46 (((decide (0 < (k : Int))) = true) ∧ (decide ((nth (isort lessB xs) ((k : Int))).1 ≤ (nth (isort lessB xs) ((k : Int) - 1)).1)) = false) (.int .i64 ((k : Int)))),
                    (gdet (Nw w) 47 (((decide (0 < (k : Int))) = true) ∧ (decide ((nth (isort lessB xs) ((k : Int))).1 ≤ (nth (isort lessB xs) ((k : Int) - 1)).1)) = false) (.int .i64 ((k : Int) - 1))),
                    (gdet (Nw w) 48 (((decide (0 < (k : Int))) = true) ∧ (decide ((nth (isort lessB xs) ((k : Int))).1 ≤ (nth (isort lessB xs) ((k : Int) - 1)).1)) = false) (.pointer (some ((ptrOf b2x3).add (((k : Int) - 1 : Int).toNat * 2))))),
                    (gdet (Nw w) 49 (((decide (0 < (k : Int))) = true) ∧ (decide ((nth (isort lessB xs) ((k : Int))).1 ≤ (nth (isort lessB xs) ((k : Int) - 1)).1)) = false) (.pointer (some (((ptrOf b2x3).add (((k : Int) - 1 : Int).toNat * 2)).add 1)))),
                    (gdet (Nw w) 50 (((decide (0 < (k : Int))) = true) ∧ (decide ((nth (isort lessB xs) ((k : Int))).1 ≤ (nth (isort lessB xs) ((k : Int) - 1)).1)) = false) (.int .i64 ((nth (isort lessB xs) ((k : Int) - 1)).2))),
                    (gdet (Nw w) 51 (((decide (0 < (k : Int))) = true) ∧ (decide ((nth (isort lessB xs) ((k : Int))).1 ≤ (nth (isort lessB xs) ((k : Int) - 1)).1)) = false) (.bool (decide ((nth (isort lessB xs) ((k : Int))).1 < (nth (isort lessB xs) ((k : Int) - 1)).2)))),
                    (gdet (Nw w) 52 ((decide (0 < (k : Int))) = true) (.bool ((decide ((nth (isort lessB xs) ((k : Int))).1 ≤ (nth (isort lessB xs) ((k : Int) - 1)).1)) || (decide ((nth (isort lessB xs) ((k : Int))).1 < (nth (isort lessB xs) ((k : Int) - 1)).2))))),
                    (det (Nw w) 53 (.bool ((decide (0 < (k : Int))) && ((decide ((nth (isort lessB xs) ((k : Int))).1 ≤ (nth (isort lessB xs) ((k : Int) - 1)).1)) || (decide ((nth (isort lessB xs) ((k : Int))).1 < (nth (isort lessB xs) ((k : Int) - 1)).2))))))])
          [(Ini.any (Nw w)), (iown SpanE 29 (Nw w) b2x3 (isort lessB xs))] mixed st6 (by kernel_rfl) ⟨trivial, r1, trivial⟩
          ⟨Ob.det rfl rfl rfl (fun _ a_ _ _ c => r_move rfl (c.eo e4 (by kernel_rfl))),
                   Ob.det rfl rfl rfl (fun _ a_ _ _ c => r_gtr rfl (c.ev 0 rfl rfl) rfl),
                   Ob.det rfl rfl rfl (fun _ a_ _ _ c => r_move rfl (c.ev 1 rfl rfl)),
                   Ob.gdet rfl rfl rfl rfl (gi := 2) (tg := 26) rfl rfl Iff.rfl (fun _ a_ _ _ c hpc => r_move rfl (c.eo e3 (by kernel_rfl))),
                   Ob.gdet rfl rfl rfl rfl (gi := 2) (tg := 26) rfl rfl Iff.rfl (fun _ a_ _ _ c hpc => r_move rfl (c.eo e4 (by kernel_rfl))),
                   Ob.gdet rfl rfl rfl rfl (gi := 2) (tg := 26) rfl rfl Iff.rfl (fun _ a_ _ _ c hpc => r_indexAddr rfl Try.underlying22 Try.sizeOf29 (c.eg 3 rfl rfl hpc) r1.isSl (c.eg 4 rfl rfl hpc) (by have hq0 := hpc; (try simp only [Bool.and_eq_true, Bool.or_eq_true, decide_eq_true_eq, decide_eq_false_iff_not, Bool.not_eq_true', Bool.and_eq_false_iff, Bool.or_eq_false_iff, Bool.not_eq_false', Int.not_lt, Int.not_le, beq_iff_eq, spanB] at hq0); omega) (by have hq0 := hpc; (try simp only [Bool.and_eq_true, Bool.or_eq_true, decide_eq_true_eq, decide_eq_false_iff_not, Bool.not_eq_true', Bool.and_eq_false_iff, Bool.or_eq_false_iff, Bool.not_eq_false', Int.not_lt, Int.not_le, beq_iff_eq, spanB] at hq0); omega)),
                   Ob.gdet rfl rfl rfl rfl (gi := 2) (tg := 26) rfl rfl Iff.rfl (fun _ a_ _ _ c hpc => r_fieldAddr rfl Try.underlying29 rfl rfl Try.sizeOf3 (c.eg 5 rfl rfl hpc)),
                   Ob.gdet rfl rfl rfl rfl (gi := 2) (tg := 26) rfl rfl Iff.rfl (fun _ a_ _ _ c hpc => r_load1 rfl Try.isAgg3 (c.eg 6 rfl rfl hpc) (((c.iown 1 rfl rfl (by kernel_rfl)).1.sl).elem (j := 0) (nth_some (by have hq0 := hpc; (try simp only [Bool.and_eq_true, Bool.or_eq_true, decide_eq_true_eq, decide_eq_false_iff_not, Bool.not_eq_true', Bool.and_eq_false_iff, Bool.or_eq_false_iff, Bool.not_eq_false', Int.not_lt, Int.not_le, beq_iff_eq, spanB] at hq0); omega) (by have hq0 := hpc; (try simp only [Bool.and_eq_true, Bool.or_eq_true, decide_eq_true_eq, decide_eq_false_iff_not, Bool.not_eq_true', Bool.and_eq_false_iff, Bool.or_eq_false_iff, Bool.not_eq_false', Int.not_lt, Int.not_le, beq_iff_eq, spanB] at hq0); omega)) rfl)),
                   Ob.gdet rfl rfl rfl rfl (gi := 2) (tg := 26) rfl rfl Iff.rfl (fun _ a_ _ _ c hpc => r_move rfl (c.eo e3 (by kernel_rfl))),
                   Ob.gdet rfl rfl rfl rfl (gi := 2) (tg := 26) rfl rfl Iff.rfl (fun _ a_ _ _ c hpc => r_move rfl (c.eo e4 (by kernel_rfl))),
                   Ob.gdet rfl rfl rfl rfl (gi := 2) (tg := 26) rfl rfl Iff.rfl (fun _ a_ _ _ c hpc => r_sub rfl (c.eg 9 rfl rfl hpc) rfl (by have hq0 := hpc; (try simp only [Bool.and_eq_true, Bool.or_eq_true, decide_eq_true_eq, decide_eq_false_iff_not, Bool.not_eq_true', Bool.and_eq_false_iff, Bool.or_eq_false_iff, Bool.not_eq_false', Int.not_lt, Int.not_le, beq_iff_eq, spanB] at hq0); omega)),
                   Ob.gdet rfl rfl rfl rfl (gi := 2) (tg := 26) rfl rfl Iff.rfl (fun _ a_ _ _ c hpc => r_indexAddr rfl Try.underlying22 Try.sizeOf29 (c.eg 8 rfl rfl hpc) r1.isSl (c.eg 10 rfl rfl hpc) (by have hq0 := hpc; (try simp only [Bool.and_eq_true, Bool.or_eq_true, decide_eq_true_eq, decide_eq_false_iff_not, Bool.not_eq_true', Bool.and_eq_false_iff, Bool.or_eq_false_iff, Bool.not_eq_false', Int.not_lt, Int.not_le, beq_iff_eq, spanB] at hq0); omega) (by have hq0 := hpc; (try simp only [Bool.and_eq_true, Bool.or_eq_true, decide_eq_true_eq, decide_eq_false_iff_not, Bool.not_eq_true', Bool.and_eq_false_iff, Bool.or_eq_false_iff, Bool.not_eq_false', Int.not_lt, Int.not_le, beq_iff_eq, spanB] at hq0); omega)),
                   Ob.gdet rfl rfl rfl rfl (gi := 2) (tg := 26) rfl rfl Iff.rfl (fun _ a_ _ _ c hpc => r_fieldAddr rfl Try.underlying29 rfl rfl Try.sizeOf3 (c.eg 11 rfl rfl hpc)),
                   Ob.gdet rfl rfl rfl rfl (gi := 2) (tg := 26) rfl rfl Iff.rfl (fun _ a_ _ _ c hpc => r_load1 rfl Try.isAgg3 (c.eg 12 rfl rfl hpc) (((c.iown 1 rfl rfl (by kernel_rfl)).1.sl).elem (j := 0) (nth_some (by have hq0 := hpc; (try simp only [Bool.and_eq_true, Bool.or_eq_true, decide_eq_true_eq, decide_eq_false_iff_not, Bool.not_eq_true', Bool.and_eq_false_iff, Bool.or_eq_false_iff, Bool.not_eq_false', Int.not_lt, Int.not_le, beq_iff_eq, spanB] at hq0); omega) (by have hq0 := hpc; (try simp only [Bool.and_eq_true, Bool.or_eq_true, decide_eq_true_eq, decide_eq_false_iff_not, Bool.not_eq_true', Bool.and_eq_false_iff, Bool.or_eq_false_iff, Bool.not_eq_false', Int.not_lt, Int.not_le, beq_iff_eq, spanB] at hq0); omega)) rfl)),
                   Ob.gdet rfl rfl rfl rfl (gi := 2) (tg := 26) rfl rfl Iff.rfl (fun _ a_ _ _ c hpc => r_leq rfl (c.eg 7 rfl rfl hpc) (c.eg 13 rfl rfl hpc)),
                   Ob.gdet rfl rfl rfl rfl (gi := 2) (tg := 26) rfl rfl Iff.rfl (fun _ a_ _ _ c hpc => r_move rfl (c.eg 14 rfl rfl hpc)),
                   Ob.ggdet rfl rfl rfl rfl (gi := 15) (tg := 39) rfl rfl Iff.rfl (fun _ a_ _ _ c hpc => r_move rfl (c.eo e3 (by kernel_rfl))),
                   Ob.ggdet rfl rfl rfl rfl (gi := 15) (tg := 39) rfl rfl Iff.rfl (fun _ a_ _ _ c hpc => r_move rfl (c.eo e4 (by kernel_rfl))),
                   Ob.ggdet rfl rfl rfl rfl (gi := 15) (tg := 39) rfl rfl Iff.rfl (fun _ a_ _ _ c hpc => r_indexAddr rfl Try.underlying22 Try.sizeOf29 (c.eg 16 rfl rfl hpc) r1.isSl (c.eg 17 rfl rfl hpc) (by have hq0 := hpc.2; have hq1 := hpc.1; (try simp only [Bool.and_eq_true, Bool.or_eq_true, decide_eq_true_eq, decide_eq_false_iff_not, Bool.not_eq_true', Bool.and_eq_false_iff, Bool.or_eq_false_iff, Bool.not_eq_false', Int.not_lt, Int.not_le, beq_iff_eq, spanB] at hq0 hq1); omega) (by have hq0 := hpc.2; have hq1 := hpc.1; (try simp only [Bool.and_eq_true, Bool.or_eq_true, decide_eq_true_eq, decide_eq_false_iff_not, Bool.not_eq_true', Bool.and_eq_false_iff, Bool.or_eq_false_iff, Bool.not_eq_false', Int.not_lt, Int.not_le, beq_iff_eq, spanB] at hq0 hq1); omega)),
                   Ob.ggdet rfl rfl rfl rfl (gi := 15) (tg := 39) rfl rfl Iff.rfl (fun _ a_ _ _ c hpc => r_fieldAddr rfl Try.underlying29 rfl rfl Try.sizeOf3 (c.eg 18 rfl rfl hpc)),
                   Ob.ggdet rfl rfl rfl rfl (gi := 15) (tg := 39) rfl rfl Iff.rfl (fun _ a_ _ _ c hpc => r_load1 rfl Try.isAgg3 (c.eg 19 rfl rfl hpc) (((c.iown 1 rfl rfl (by kernel_rfl)).1.sl).elem (j := 0) (nth_some (by have hq0 := hpc.2; have hq1 := hpc.1; (try simp only [Bool.and_eq_true, Bool.or_eq_true, decide_eq_true_eq, decide_eq_false_iff_not, Bool.not_eq_true', Bool.and_eq_false_iff, Bool.or_eq_false_iff, Bool.not_eq_false', Int.not_lt, Int.not_le, beq_iff_eq, spanB] at hq0 hq1); omega) (by have hq0 := hpc.2; have hq1 := hpc.1; (try simp only [Bool.and_eq_true, Bool.or_eq_true, decide_eq_true_eq, decide_eq_false_iff_not, Bool.not_eq_true', Bool.and_eq_false_iff, Bool.or_eq_false_iff, Bool.not_eq_false', Int.not_lt, Int.not_le, beq_iff_eq, spanB] at hq0 hq1); omega)) rfl)),
                   Ob.ggdet rfl rfl rfl rfl (gi := 15) (tg := 39) rfl rfl Iff.rfl (fun _ a_ _ _ c hpc => r_move rfl (c.eo e3 (by kernel_rfl))),
                   Ob.ggdet rfl rfl rfl rfl (gi := 15) (tg := 39) rfl rfl Iff.rfl (fun _ a_ _ _ c hpc => r_move rfl (c.eo e4 (by kernel_rfl))),
                   Ob.ggdet rfl rfl rfl rfl (gi := 15) (tg := 39) rfl rfl Iff.rfl (fun _ a_ _ _ c hpc => r_sub rfl (c.eg 22 rfl rfl hpc) rfl (by have hq0 := hpc.2; have hq1 := hpc.1; (try simp only [Bool.and_eq_true, Bool.or_eq_true, decide_eq_true_eq, decide_eq_false_iff_not, Bool.not_eq_true', Bool.and_eq_false_iff, Bool.or_eq_false_iff, Bool.not_eq_false', Int.not_lt, Int.not_le, beq_iff_eq, spanB] at hq0 hq1); omega)),
                   Ob.ggdet rfl rfl rfl rfl (gi := 15) (tg := 39) rfl rfl Iff.rfl (fun _ a_ _ _ c hpc => r_indexAddr rfl Try.underlying22 Try.sizeOf29 (c.eg 21 rfl rfl hpc) r1.isSl (c.eg 23 rfl rfl hpc) (by have hq0 := hpc.2; have hq1 := hpc.1; (try simp only [Bool.and_eq_true, Bool.or_eq_true, decide_eq_true_eq, decide_eq_false_iff_not, Bool.not_eq_true', Bool.and_eq_false_iff, Bool.or_eq_false_iff, Bool.not_eq_false', Int.not_lt, Int.not_le, beq_iff_eq, spanB] at hq0 hq1); omega) (by have hq0 := hpc.2; have hq1 := hpc.1; (try simp only [Bool.and_eq_true, Bool.or_eq_true, decide_eq_true_eq, decide_eq_false_iff_not, Bool.not_eq_true', Bool.and_eq_false_iff, Bool.or_eq_false_iff, Bool.not_eq_false', Int.not_lt, Int.not_le, beq_iff_eq, spanB] at hq0 hq1); omega)),
                   Ob.ggdet rfl rfl rfl rfl (gi := 15) (tg := 39) rfl rfl Iff.rfl (fun _ a_ _ _ c hpc => r_fieldAddr rfl Try.underlying29 rfl rfl Try.sizeOf3 (c.eg 24 rfl rfl hpc)),
                   Ob.ggdet rfl rfl rfl rfl (gi := 15) (tg := 39) rfl rfl Iff.rfl (fun _ a_ _ _ c hpc => r_load1 rfl Try.isAgg3 (c.eg 25 rfl rfl hpc) (((c.iown 1 rfl rfl (by kernel_rfl)).1.sl).elem (j := 1) (nth_some (by have hq0 := hpc.2; have hq1 := hpc.1; (try simp only [Bool.and_eq_true, Bool.or_eq_true, decide_eq_true_eq, decide_eq_false_iff_not, Bool.not_eq_true', Bool.and_eq_false_iff, Bool.or_eq_false_iff, Bool.not_eq_false', Int.not_lt, Int.not_le, beq_iff_eq, spanB] at hq0 hq1); omega) (by have hq0 := hpc.2; have hq1 := hpc.1; (try simp only [Bool.and_eq_true, Bool.or_eq_true, decide_eq_true_eq, decide_eq_false_iff_not, Bool.not_eq_true', Bool.and_eq_false_iff, Bool.or_eq_false_iff, Bool.not_eq_false', Int.not_lt, Int.not_le, beq_iff_eq, spanB] at hq0 hq1); omega)) rfl)),
                   Ob.ggdet rfl rfl rfl rfl (gi := 15) (tg := 39) rfl rfl Iff.rfl (fun _ a_ _ _ c hpc => r_lss rfl (c.eg 20 rfl rfl hpc) (c.eg 26 rfl rfl hpc)),
                   Ob.gdet rfl rfl rfl rfl (gi := 2) (tg := 26) rfl rfl Iff.rfl (fun _ a_ _ _ c hpc => r_or rfl (c.eg 15 rfl rfl hpc) (fun h => (c.eg 27 rfl rfl ⟨hpc, h⟩))),
                   Ob.det rfl rfl rfl (fun _ a_ _ _ c => r_and rfl (c.ev 2 rfl rfl) (fun h => (c.eg 28 rfl rfl h))),
           trivial⟩ ?_
        intro a8 w8 τ8 st8 f8
        replace e0 := f8.old e0 (by kernel_rfl)
        replace e3 := f8.old e3 (by kernel_rfl)
        replace e4 := f8.old e4 (by kernel_rfl)
        replace e10 := f8.old e10 (by kernel_rfl)
        replace e23 := f8.old e23 (by kernel_rfl)
        have e53 : get a8 53 = (.bool ((decide (0 < (k : Int))) && ((decide ((nth (isort lessB xs) ((k : Int))).1 ≤ (nth (isort lessB xs) ((k : Int) - 1)).1)) || (decide ((nth (isort lessB xs) ((k : Int))).1 < (nth (isort lessB xs) ((k : Int) - 1)).2))))) := f8.v 29 rfl
        replace r1 : ownR SpanE 29 (isort lessB xs) (τ8 1) b2x3 w8 := f8.iown 1 rfl rfl
        clear f8
        show Code.wp _ _ _ a8 w8
        refine wp_cond_split (t := (decide (0 < (k : Int))) && ((decide ((nth (isort lessB xs) ((k : Int))).1 ≤ (nth (isort lessB xs) ((k : Int) - 1)).1)) || (decide ((nth (isort lessB xs) ((k : Int))).1 < (nth (isort lessB xs) ((k : Int) - 1)).2)))) e53 (fun hc3 => ?_) (fun hc3 => ?_)
        · have hd3 := hc3; try simp only [Bool.and_eq_true, Bool.or_eq_true, decide_eq_true_eq, decide_eq_false_iff_not, Bool.not_eq_true', Bool.and_eq_false_iff, Bool.or_eq_false_iff, Bool.not_eq_false', Int.not_lt, Int.not_le, beq_iff_eq, spanB] at hd3
          refine wp_seq ?_
          refine region_St (bf := [0]) (sp := [
              (det (Nw w) 2 (.bool (false)))])
            [(Ini.any (Nw w)), (iown SpanE 29 (Nw w) b2x3 (isort lessB xs))] mixed st8 (by kernel_rfl) ⟨trivial, r1, trivial⟩
            ⟨Ob.det rfl rfl rfl (fun _ a_ _ _ c => r_assign rfl rfl),
             trivial⟩ ?_
          intro a9 w9 τ9 st9 f9
          replace e0 := f9.old e0 (by kernel_rfl)
          have e2 : get a9 2 = (.bool (false)) := f9.v 0 rfl
          replace e3 := f9.old e3 (by kernel_rfl)
          replace e4 := f9.old e4 (by kernel_rfl)
          replace e10 := f9.old e10 (by kernel_rfl)
          replace e23 := f9.old e23 (by kernel_rfl)
          replace e53 := f9.old e53 (by kernel_rfl)
          replace r1 : ownR SpanE 29 (isort lessB xs) (τ9 1) b2x3 w9 := f9.iown 1 rfl rfl
          clear f9
          show Code.wp _ _ _ a9 w9
          refine wp_ret ?_
          repeat (first | with_reducible refine then_ret ?_ | with_reducible refine block_ret ?_)
          refine ret1 (fn := Try.f18) rfl st9.defers e2 ?_
          exact ⟨congrArg _ (congrArg _ (by exact (apartR_no (k := k) (by omega) (by first | exact badR_1 (by assumption) | exact badR_2 (by assumption))).symm)), st9.ext0⟩
        · have hd3 := hc3; try simp only [Bool.and_eq_true, Bool.or_eq_true, decide_eq_true_eq, decide_eq_false_iff_not, Bool.not_eq_true', Bool.and_eq_false_iff, Bool.or_eq_false_iff, Bool.not_eq_false', Int.not_lt, Int.not_le, beq_iff_eq, spanB] at hd3
          refine wp_skip ?_
          show _
          show Code.wp _ _ _ a8 w8
          refine region_St (bf := [0, 1, 3]) (sp := [
              (det (Nw w) 11 (.int .i64 ((k : Int)))),
                        (det (Nw w) 12 (.int .i64 ((k : Int) + 1))),
                        (det (Nw w) 4 (.int .i64 ((k : Int) + 1)))])
            [(Ini.any (Nw w)), (iown SpanE 29 (Nw w) b2x3 (isort lessB xs))] mixed st8 (by kernel_rfl) ⟨trivial, r1, trivial⟩
            ⟨Ob.det rfl rfl rfl (fun _ a_ _ _ c => r_move rfl (c.eo e4 (by kernel_rfl))),
                       Ob.det rfl rfl rfl (fun _ a_ _ _ c => r_add rfl (c.ev 0 rfl rfl) rfl (by omega)),
                       Ob.det rfl rfl rfl (fun _ a_ _ _ c => r_assign rfl (c.ev 1 rfl rfl)),
             trivial⟩ ?_
          intro a10 w10 τ10 st10 f10
          replace e0 := f10.old e0 (by kernel_rfl)
          replace e3 := f10.old e3 (by kernel_rfl)
          have e4 : get a10 4 = (.int .i64 ((k : Int) + 1)) := f10.v 2 rfl
          replace e10 := f10.old e10 (by kernel_rfl)
          replace e23 := f10.old e23 (by kernel_rfl)
          replace e53 := f10.old e53 (by kernel_rfl)
          replace r1 : ownR SpanE 29 (isort lessB xs) (τ10 1) b2x3 w10 := f10.iown 1 rfl rfl
          clear f10
          refine ⟨⟨k + 1, τ10, ?_, ?_, st10, (e4.trans (int_eq (by omega))), e0, e3, r1⟩, ?_⟩
          · omega
          · exact upto_succ q1 (badR_no (by assumption) (by assumption))
          · simp only [m4, e4, intOf]; omega
    · try simp only [Bool.and_eq_true, Bool.or_eq_true, decide_eq_true_eq, decide_eq_false_iff_not, Bool.not_eq_true', Bool.and_eq_false_iff, Bool.or_eq_false_iff, Bool.not_eq_false', Int.not_lt, Int.not_le, beq_iff_eq, spanB] at hc1
      refine wp_exit ?_
      repeat (with_reducible refine then_exit ?_)
      refine exit_here ?_
      show Code.wp _ _ _ a5 w5
      refine wp_seq ?_
      refine region_St (bf := [0]) (sp := [
          (det (Nw w) 2 (.bool (true)))])
        [(Ini.any (Nw w)), (iown SpanE 29 (Nw w) b2x3 (isort lessB xs))] mixed st5 (by kernel_rfl) ⟨trivial, r1, trivial⟩
        ⟨Ob.det rfl rfl rfl (fun _ a_ _ _ c => r_assign rfl rfl),
         trivial⟩ ?_
      intro a11 w11 τ11 st11 f11
      replace e0 := f11.old e0 (by kernel_rfl)
      have e2 : get a11 2 = (.bool (true)) := f11.v 0 rfl
      replace e3 := f11.old e3 (by kernel_rfl)
      replace e4 := f11.old e4 (by kernel_rfl)
      replace e10 := f11.old e10 (by kernel_rfl)
      replace r1 : ownR SpanE 29 (isort lessB xs) (τ11 1) b2x3 w11 := f11.iown 1 rfl rfl
      clear f11
      show Code.wp _ _ _ a11 w11
      refine wp_ret ?_
      repeat (first | with_reducible refine then_ret ?_ | with_reducible refine block_ret ?_)
      refine ret1 (fn := Try.f18) rfl st11.defers e2 ?_
      exact ⟨congrArg _ (congrArg _ (by exact (apartR_yes q1 (by omega)).symm)), st11.ext0⟩

set_option maxRecDepth 100000 in
theorem awake_c  (w : World) : Calls Try.prog 11 #[] w (fun e w' => e = .returned (.bool (true)) ∧ Ext none' w w') := by
  refine enter (n := 43) Try.func11 rfl rfl (Nat.le_of_ble_eq_true rfl) ?_
  intro a0 τ0 ha st0
  clear ha
  refine wp_seq ?_
  refine region_St (bf := [0]) (sp := [
      (det (Nw w) 0 (.bool (false)))])
    [] mixed st0 (by kernel_rfl) trivial
    ⟨Ob.det rfl rfl rfl (fun _ a_ _ _ c => r_assign rfl rfl),
     trivial⟩ ?_
  intro a1 w1 τ1 st1 f1
  have e0 : get a1 0 = (.bool (false)) := f1.v 0 rfl
  clear f1
  show Code.wp _ _ _ a1 w1
  refine wp_seq ?_
  refine region_St (bf := [0, 0, 0, 7, 15, 31]) (sp := [
      (det (Nw w) 2 (.agg #[(.int .i64 (1)), (.int .i64 (2))])),
        (det (Nw w) 3 (.agg #[(.int .i64 (4)), (.int .i64 (4))])),
        (det (Nw w) 4 (.agg #[(.int .i64 (2)), (.int .i64 (3))])),
        (own SpanE 29 (Nw w) 0 5 ([(1, 2), (4, 4), (2, 3)])),
        (own SpanE 29 (Nw w) 1 6 (unionF ([(1, 2), (4, 4), (2, 3)]))),
        (own SpanE 29 (Nw w) 1 1 (unionF ([(1, 2), (4, 4), (2, 3)])))])
    [] mixed st1 (by kernel_rfl) trivial
    ⟨Ob.det rfl rfl rfl (fun _ a_ _ _ c => r_build (cells := #[(.int .i64 (1)), (.int .i64 (2))]) rfl Try.underlying29 Try.zeroValue29 (pl := #[(0, 1), (1, 1)]) (fun w_ => by simp [Try.sizeOf3]) (by simp only [List.map_toArray, List.map_cons, List.map_nil]; rfl)),
       Ob.det rfl rfl rfl (fun _ a_ _ _ c => r_build (cells := #[(.int .i64 (4)), (.int .i64 (4))]) rfl Try.underlying29 Try.zeroValue29 (pl := #[(0, 1), (1, 1)]) (fun w_ => by simp [Try.sizeOf3]) (by simp only [List.map_toArray, List.map_cons, List.map_nil]; rfl)),
       Ob.det rfl rfl rfl (fun _ a_ _ _ c => r_build (cells := #[(.int .i64 (2)), (.int .i64 (3))]) rfl Try.underlying29 Try.zeroValue29 (pl := #[(0, 1), (1, 1)]) (fun w_ => by simp [Try.sizeOf3]) (by simp only [List.map_toArray, List.map_cons, List.map_nil]; rfl)),
       Ob.buildSlice (cells := #[(.int .i64 (1)), (.int .i64 (2)), (.int .i64 (4)), (.int .i64 (4)), (.int .i64 (2)), (.int .i64 (3))]) rfl rfl rfl rfl Try.underlying22 Try.sizeOf29 Try.zeroValue29 rfl (by decide) (by decide) (fun _ a_ _ _ c => by simp only [List.map_toArray, List.map_cons, List.map_nil, (show a_.eval (.tmp 2) = (.agg #[(.int .i64 (1)), (.int .i64 (2))]) from (c.ev 0 rfl rfl)), (show a_.eval (.tmp 3) = (.agg #[(.int .i64 (4)), (.int .i64 (4))]) from (c.ev 1 rfl rfl)), (show a_.eval (.tmp 4) = (.agg #[(.int .i64 (2)), (.int .i64 (3))]) from (c.ev 2 rfl rfl))]; kernel_rfl) rfl,
       Ob.callOwn rfl rfl rfl (fun _ a_ _ _ c => ⟨_, _, (e_call1 rfl rfl Try.call13 (eval_tmp _ 5)), union_c _ ([(1, 2), (4, 4), (2, 3)]) _ (c.rown 3 rfl rfl (by kernel_rfl)).1.sl (by first | omega | (simp only [List.length_cons, List.length_nil]; omega))⟩),
       Ob.moveT (t0 := 6) rfl rfl rfl rfl rfl (.inr rfl) (fun _ _ _ _ c => ⟨c.rown 4 rfl rfl (by kernel_rfl), rfl⟩),
     trivial⟩ ?_
  intro a2 w2 τ2 st2 f2
  obtain ⟨b2x5, e5⟩ : ∃ b, get a2 5 = b := ⟨_, rfl⟩
  obtain ⟨b2x1, e1⟩ : ∃ b, get a2 1 = b := ⟨_, rfl⟩
  replace e0 := f2.old e0 (by kernel_rfl)
  have r0 : ownR SpanE 29 ([(1, 2), (4, 4), (2, 3)]) (τ2 0) b2x5 w2 := f2.rown 3 rfl rfl e5
  have r1 : ownR SpanE 29 (unionF ([(1, 2), (4, 4), (2, 3)])) (τ2 1) b2x1 w2 := f2.rown 5 rfl rfl e1
  clear f2
  replace r1 := r1.cast (show [((1 : Int), (3 : Int)), (4, 4)] = unionF ([(1, 2), (4, 4), (2, 3)]) from by decide +kernel)
  show Code.wp _ _ _ a2 w2
  refine wp_seq ?_
  refine region_St (bf := [0, 1, 3, 7, 15, 31, 63, 15, 255, 511, 1023, 2047, 4095, 8191, 2047, 32767, 65535, 131071, 262143, 262143, 1048575, 2097151, 4194303, 8388607, 16777215, 33554431, 67108863, 134217727, 268435455, 536870911, 1073741823, 2147483647, 4294967295, 8589934591, 17179869183, 34359738367, 68719476735]) (sp := [
      (det (Nw w) 7 b2x1),
        (det (Nw w) 8 (.int .i64 ((([((1 : Int), (3 : Int)), (4, 4)]).length : Int)))),
        (det (Nw w) 9 (.bool (true))),
        (det (Nw w) 10 (.bool (true))),
        (det (Nw w) 11 b2x1),
        (det (Nw w) 12 (.pointer (some ((ptrOf b2x1).add ((0 : Int).toNat * 2))))),
        (det (Nw w) 13 (.agg #[(.int .i64 ((nth ([((1 : Int), (3 : Int)), (4, 4)]) (0)).1)), (.int .i64 ((nth ([((1 : Int), (3 : Int)), (4, 4)]) (0)).2))])),
        (det (Nw w) 14 (.agg #[(.int .i64 (1)), (.int .i64 (3))])),
        (det (Nw w) 15 (.bool (true))),
        (det (Nw w) 16 (.bool (true))),
        (det (Nw w) 17 (.bool (true))),
        (det (Nw w) 18 b2x1),
        (det (Nw w) 19 (.pointer (some ((ptrOf b2x1).add ((1 : Int).toNat * 2))))),
        (det (Nw w) 20 (.agg #[(.int .i64 ((nth ([((1 : Int), (3 : Int)), (4, 4)]) (1)).1)), (.int .i64 ((nth ([((1 : Int), (3 : Int)), (4, 4)]) (1)).2))])),
        (det (Nw w) 21 (.agg #[(.int .i64 (4)), (.int .i64 (4))])),
        (det (Nw w) 22 (.bool (true))),
        (det (Nw w) 23 (.bool (true))),
        (det (Nw w) 24 (.bool (true))),
        (det (Nw w) 25 (.agg #[(.int .i64 (1)), (.int .i64 (1))])),
        (det (Nw w) 26 (.agg #[(.int .i64 (1)), (.int .i64 (2))])),
        (own SpanE 29 (Nw w) 2 27 ([(1, 1), (1, 2)])),
        (det (Nw w) 28 (.bool (false))),
        (det (Nw w) 29 (.bool (true))),
        (det (Nw w) 30 (.bool (true))),
        (det (Nw w) 31 (.bool (true))),
        (det (Nw w) 32 b2x1),
        (det (Nw w) 33 (.pointer (some ((ptrOf b2x1).add ((0 : Int).toNat * 2))))),
        (det (Nw w) 34 (.agg #[(.int .i64 ((nth ([((1 : Int), (3 : Int)), (4, 4)]) (0)).1)), (.int .i64 ((nth ([((1 : Int), (3 : Int)), (4, 4)]) (0)).2))])),
        (det (Nw w) 35 (.bool (true))),
        (det (Nw w) 36 (.bool (true))),
        (det (Nw w) 37 (.bool (true))),
        (det (Nw w) 38 b2x1),
        (det (Nw w) 39 (.pointer (some ((ptrOf b2x1).add ((0 : Int).toNat * 2))))),
        (det (Nw w) 40 (.agg #[(.int .i64 ((nth ([((1 : Int), (3 : Int)), (4, 4)]) (0)).1)), (.int .i64 ((nth ([((1 : Int), (3 : Int)), (4, 4)]) (0)).2))])),
        (det (Nw w) 41 (.bool (true))),
        (det (Nw w) 42 (.bool (true))),
        (det (Nw w) 0 (.bool (true)))])
    [(iown SpanE 29 (Nw w) b2x5 ([(1, 2), (4, 4), (2, 3)])), (iown SpanE 29 (Nw w) b2x1 ([((1 : Int), (3 : Int)), (4, 4)]))] mixed st2 (by kernel_rfl) ⟨r0, r1, trivial⟩
    ⟨Ob.det rfl rfl rfl (fun _ a_ _ _ c => r_move rfl (c.eo e1 (by kernel_rfl))),
       Ob.det rfl rfl rfl (fun _ a_ _ _ c => r_len rfl Try.underlying22 (c.ev 0 rfl rfl) r1.isSl),
       Ob.det rfl rfl rfl (fun _ a_ _ _ c => Runs.isB (b := decide ((([((1 : Int), (3 : Int)), (4, 4)]).length : Int) = 2)) (r_eql rfl (c.ev 1 rfl rfl) rfl) (by decide +kernel)),
       Ob.det rfl rfl rfl (fun _ a_ _ _ c => r_move rfl (c.ev 2 rfl rfl)),
       Ob.live (gi := 3) (tg := 10) rfl rfl rfl rfl (Ob.det rfl rfl rfl (fun _ a_ _ _ c => r_move rfl (c.eo e1 (by kernel_rfl)))),
       Ob.live (gi := 3) (tg := 10) rfl rfl rfl rfl (Ob.det rfl rfl rfl (fun _ a_ _ _ c => r_indexAddr rfl Try.underlying22 Try.sizeOf29 (c.ev 4 rfl rfl) r1.isSl rfl (by first | omega | (simp only [List.length_cons, List.length_nil]; omega)) (by first | omega | (simp only [List.length_cons, List.length_nil]; omega)))),
       Ob.live (gi := 3) (tg := 10) rfl rfl rfl rfl (Ob.det rfl rfl rfl (fun _ a_ _ _ c => r_loadN (vs := [(.int .i64 ((nth ([((1 : Int), (3 : Int)), (4, 4)]) (0)).1)), (.int .i64 ((nth ([((1 : Int), (3 : Int)), (4, 4)]) (0)).2))]) rfl Try.isAgg29 Try.sizeOf29 (c.ev 5 rfl rfl) rfl (fun _ _ hj => ((c.iown 1 rfl rfl (by kernel_rfl)).1.sl).elem (nth_some (by first | omega | (simp only [List.length_cons, List.length_nil]; omega)) (by first | omega | (simp only [List.length_cons, List.length_nil]; omega))) hj))),
       Ob.live (gi := 3) (tg := 10) rfl rfl rfl rfl (Ob.det rfl rfl rfl (fun _ a_ _ _ c => r_build (cells := #[(.int .i64 (1)), (.int .i64 (3))]) rfl Try.underlying29 Try.zeroValue29 (pl := #[(0, 1), (1, 1)]) (fun w_ => by simp [Try.sizeOf3]) (by simp only [List.map_toArray, List.map_cons, List.map_nil]; rfl))),
       Ob.live (gi := 3) (tg := 10) rfl rfl rfl rfl (Ob.det rfl rfl rfl (fun _ a_ _ _ c => Runs.isB (b := spanB (nth ([((1 : Int), (3 : Int)), (4, 4)]) (0)) (1, 3)) (span_eq rfl (c.ev 6 rfl rfl) (c.ev 7 rfl rfl)) (by decide +kernel))),
       Ob.det rfl rfl rfl (fun _ a_ _ _ c => r_pick rfl (c.ev 3 rfl rfl) (fun _ => (c.ev 8 rfl rfl)) (fun h => by cases h)),
       Ob.det rfl rfl rfl (fun _ a_ _ _ c => r_move rfl (c.ev 9 rfl rfl)),
       Ob.live (gi := 10) (tg := 17) rfl rfl rfl rfl (Ob.det rfl rfl rfl (fun _ a_ _ _ c => r_move rfl (c.eo e1 (by kernel_rfl)))),
       Ob.live (gi := 10) (tg := 17) rfl rfl rfl rfl (Ob.det rfl rfl rfl (fun _ a_ _ _ c => r_indexAddr rfl Try.underlying22 Try.sizeOf29 (c.ev 11 rfl rfl) r1.isSl rfl (by first | omega | (simp only [List.length_cons, List.length_nil]; omega)) (by first | omega | (simp only [List.length_cons, List.length_nil]; omega)))),
       Ob.live (gi := 10) (tg := 17) rfl rfl rfl rfl (Ob.det rfl rfl rfl (fun _ a_ _ _ c => r_loadN (vs := [(.int .i64 ((nth ([((1 : Int), (3 : Int)), (4, 4)]) (1)).1)), (.int .i64 ((nth ([((1 : Int), (3 : Int)), (4, 4)]) (1)).2))]) rfl Try.isAgg29 Try.sizeOf29 (c.ev 12 rfl rfl) rfl (fun _ _ hj => ((c.iown 1 rfl rfl (by kernel_rfl)).1.sl).elem (nth_some (by first | omega | (simp only [List.length_cons, List.length_nil]; omega)) (by first | omega | (simp only [List.length_cons, List.length_nil]; omega))) hj))),
       Ob.live (gi := 10) (tg := 17) rfl rfl rfl rfl (Ob.det rfl rfl rfl (fun _ a_ _ _ c => r_build (cells := #[(.int .i64 (4)), (.int .i64 (4))]) rfl Try.underlying29 Try.zeroValue29 (pl := #[(0, 1), (1, 1)]) (fun w_ => by simp [Try.sizeOf3]) (by simp only [List.map_toArray, List.map_cons, List.map_nil]; rfl))),
       Ob.live (gi := 10) (tg := 17) rfl rfl rfl rfl (Ob.det rfl rfl rfl (fun _ a_ _ _ c => Runs.isB (b := spanB (nth ([((1 : Int), (3 : Int)), (4, 4)]) (1)) (4, 4)) (span_eq rfl (c.ev 13 rfl rfl) (c.ev 14 rfl rfl)) (by decide +kernel))),
       Ob.det rfl rfl rfl (fun _ a_ _ _ c => r_pick rfl (c.ev 10 rfl rfl) (fun _ => (c.ev 15 rfl rfl)) (fun h => by cases h)),
       Ob.det rfl rfl rfl (fun _ a_ _ _ c => r_move rfl (c.ev 16 rfl rfl)),
       Ob.live (gi := 17) (tg := 24) rfl rfl rfl rfl (Ob.det rfl rfl rfl (fun _ a_ _ _ c => r_build (cells := #[(.int .i64 (1)), (.int .i64 (1))]) rfl Try.underlying29 Try.zeroValue29 (pl := #[(0, 1), (1, 1)]) (fun w_ => by simp [Try.sizeOf3]) (by simp only [List.map_toArray, List.map_cons, List.map_nil]; rfl))),
       Ob.live (gi := 17) (tg := 24) rfl rfl rfl rfl (Ob.det rfl rfl rfl (fun _ a_ _ _ c => r_build (cells := #[(.int .i64 (1)), (.int .i64 (2))]) rfl Try.underlying29 Try.zeroValue29 (pl := #[(0, 1), (1, 1)]) (fun w_ => by simp [Try.sizeOf3]) (by simp only [List.map_toArray, List.map_cons, List.map_nil]; rfl))),
       Ob.live (gi := 17) (tg := 24) rfl rfl rfl rfl (Ob.buildSlice (cells := #[(.int .i64 (1)), (.int .i64 (1)), (.int .i64 (1)), (.int .i64 (2))]) rfl rfl rfl rfl Try.underlying22 Try.sizeOf29 Try.zeroValue29 rfl (by decide) (by decide) (fun _ a_ _ _ c => by simp only [List.map_toArray, List.map_cons, List.map_nil, (show a_.eval (.tmp 25) = (.agg #[(.int .i64 (1)), (.int .i64 (1))]) from (c.ev 18 rfl rfl)), (show a_.eval (.tmp 26) = (.agg #[(.int .i64 (1)), (.int .i64 (2))]) from (c.ev 19 rfl rfl))]; kernel_rfl) rfl),
       Ob.live (gi := 17) (tg := 24) rfl rfl rfl rfl (Ob.call rfl rfl rfl (fun _ a_ _ _ c => ⟨_, _, (e_call1 rfl rfl Try.call17 (eval_tmp _ 27)), Calls.isB (b := apartF (isort ltS ([(1, 1), (1, 2)]))) (apart_c _ ([(1, 1), (1, 2)]) _ (c.rown 20 rfl rfl (by kernel_rfl)).1.sl (by first | omega | (simp only [List.length_cons, List.length_nil]; omega))) (by decide +kernel)⟩)),
       Ob.live (gi := 17) (tg := 24) rfl rfl rfl rfl (Ob.det rfl rfl rfl (fun _ a_ _ _ c => Runs.isB (b := !false) (r_not rfl (c.ev 21 rfl rfl)) (by decide +kernel))),
       Ob.det rfl rfl rfl (fun _ a_ _ _ c => r_pick rfl (c.ev 17 rfl rfl) (fun _ => (c.ev 22 rfl rfl)) (fun h => by cases h)),
       Ob.det rfl rfl rfl (fun _ a_ _ _ c => r_move rfl (c.ev 23 rfl rfl)),
       Ob.live (gi := 24) (tg := 31) rfl rfl rfl rfl (Ob.det rfl rfl rfl (fun _ a_ _ _ c => r_move rfl (c.eo e1 (by kernel_rfl)))),
       Ob.live (gi := 24) (tg := 31) rfl rfl rfl rfl (Ob.det rfl rfl rfl (fun _ a_ _ _ c => r_indexAddr rfl Try.underlying22 Try.sizeOf29 (c.ev 25 rfl rfl) r1.isSl rfl (by first | omega | (simp only [List.length_cons, List.length_nil]; omega)) (by first | omega | (simp only [List.length_cons, List.length_nil]; omega)))),
       Ob.live (gi := 24) (tg := 31) rfl rfl rfl rfl (Ob.det rfl rfl rfl (fun _ a_ _ _ c => r_loadN (vs := [(.int .i64 ((nth ([((1 : Int), (3 : Int)), (4, 4)]) (0)).1)), (.int .i64 ((nth ([((1 : Int), (3 : Int)), (4, 4)]) (0)).2))]) rfl Try.isAgg29 Try.sizeOf29 (c.ev 26 rfl rfl) rfl (fun _ _ hj => ((c.iown 1 rfl rfl (by kernel_rfl)).1.sl).elem (nth_some (by first | omega | (simp only [List.length_cons, List.length_nil]; omega)) (by first | omega | (simp only [List.length_cons, List.length_nil]; omega))) hj))),
       Ob.live (gi := 24) (tg := 31) rfl rfl rfl rfl (Ob.call rfl rfl rfl (fun _ a_ _ _ c => ⟨_, _, (e_call2 rfl rfl Try.call19 (c.ev 27 rfl rfl) rfl), Calls.isB (b := mayB (nth ([((1 : Int), (3 : Int)), (4, 4)]) (0)) 3) (may_c (nth ([((1 : Int), (3 : Int)), (4, 4)]) (0)) 3 _) (by decide +kernel)⟩)),
       Ob.det rfl rfl rfl (fun _ a_ _ _ c => r_pick rfl (c.ev 24 rfl rfl) (fun _ => (c.ev 28 rfl rfl)) (fun h => by cases h)),
       Ob.det rfl rfl rfl (fun _ a_ _ _ c => r_move rfl (c.ev 29 rfl rfl)),
       Ob.live (gi := 30) (tg := 37) rfl rfl rfl rfl (Ob.det rfl rfl rfl (fun _ a_ _ _ c => r_move rfl (c.eo e1 (by kernel_rfl)))),
       Ob.live (gi := 30) (tg := 37) rfl rfl rfl rfl (Ob.det rfl rfl rfl (fun _ a_ _ _ c => r_indexAddr rfl Try.underlying22 Try.sizeOf29 (c.ev 31 rfl rfl) r1.isSl rfl (by first | omega | (simp only [List.length_cons, List.length_nil]; omega)) (by first | omega | (simp only [List.length_cons, List.length_nil]; omega)))),
       Ob.live (gi := 30) (tg := 37) rfl rfl rfl rfl (Ob.det rfl rfl rfl (fun _ a_ _ _ c => r_loadN (vs := [(.int .i64 ((nth ([((1 : Int), (3 : Int)), (4, 4)]) (0)).1)), (.int .i64 ((nth ([((1 : Int), (3 : Int)), (4, 4)]) (0)).2))]) rfl Try.isAgg29 Try.sizeOf29 (c.ev 32 rfl rfl) rfl (fun _ _ hj => ((c.iown 1 rfl rfl (by kernel_rfl)).1.sl).elem (nth_some (by first | omega | (simp only [List.length_cons, List.length_nil]; omega)) (by first | omega | (simp only [List.length_cons, List.length_nil]; omega))) hj))),
       Ob.live (gi := 30) (tg := 37) rfl rfl rfl rfl (Ob.call rfl rfl rfl (fun _ a_ _ _ c => ⟨_, _, (e_call2 rfl rfl Try.call15 (c.ev 33 rfl rfl) rfl), Calls.isB (b := hasB (nth ([((1 : Int), (3 : Int)), (4, 4)]) (0)) 3) (has_c (nth ([((1 : Int), (3 : Int)), (4, 4)]) (0)) 3 _) (by decide +kernel)⟩)),
       Ob.det rfl rfl rfl (fun _ a_ _ _ c => r_pick rfl (c.ev 30 rfl rfl) (fun _ => (c.ev 34 rfl rfl)) (fun h => by cases h)),
       Ob.det rfl rfl rfl (fun _ a_ _ _ c => r_assign rfl (c.ev 35 rfl rfl)),
     trivial⟩ ?_
  intro a3 w3 τ3 st3 f3
  obtain ⟨b3x27, e27⟩ : ∃ b, get a3 27 = b := ⟨_, rfl⟩
  have e0 : get a3 0 = (.bool (true)) := f3.v 36 rfl
  replace e1 := f3.old e1 (by kernel_rfl)
  replace r0 : ownR SpanE 29 ([(1, 2), (4, 4), (2, 3)]) (τ3 0) b2x5 w3 := f3.iown 0 rfl rfl
  replace r1 : ownR SpanE 29 ([((1 : Int), (3 : Int)), (4, 4)]) (τ3 1) b2x1 w3 := f3.iown 1 rfl rfl
  have r2 : ownR SpanE 29 ([(1, 1), (1, 2)]) (τ3 2) b3x27 w3 := f3.rown 20 rfl rfl e27
  clear f3
  show Code.wp _ _ _ a3 w3
  refine wp_ret ?_
  repeat (first | with_reducible refine then_ret ?_ | with_reducible refine block_ret ?_)
  refine ret1 (fn := Try.f11) rfl st3.defers e0 ?_
  exact ⟨rfl, st3.ext0⟩
end B
end Go.Proofs.Ytgcpgdhadeekcaa
