/-
  TopDeep: the unknowns, of the arguments; which strings and numbers are one; facts.
-/
import Derived.Test.YtjmnenjejgahjaaGreatDoorDpR
import Derived.Test.YtjmnenjejgahjaaGreatDoorDpC
import Derived.Test.YtjmnenjejgahjaaGreatDoorTurnP
set_option linter.unusedSimpArgs false
set_option linter.unusedVariables false
namespace Go.Proofs.YtjmnenjejgahjaaGreatDoor
namespace X
open Go.RowKit B

theorem rep_den (ρ : Rho) : ∀ (n b : Nat) (l : Str), denS ρ (rep n b l) = List.replicate n (UInt8.ofNat b) ++ denS ρ l
  | 0, b, l => by simp [rep]
  | n + 1, b, l => by rw [rep, denS_cons, rep_den ρ n b l, List.replicate_succ]; rfl
def wasB (n : Nat) : List UInt8 := List.replicate n 40 ++ (120 :: List.replicate n 41)
def nowB (n : Nat) (c : List UInt8) : List UInt8 := List.replicate n 40 ++ (c ++ List.replicate n 41)
theorem was_den (ρ : Rho) (n : Nat) : denS ρ (wasS n) = wasB n := by
  rw [wasS, rep_den, denS_cons, rep_den]; simp only [denS_nil, List.append_nil]; rfl
theorem now_den (ρ : Rho) (n : Nat) : denS ρ (nowS n) = nowB n (ρ.s 0) := by
  rw [nowS, rep_den, denS_cons, rep_den]; simp only [denS_nil, List.append_nil]; rfl
theorem was_len (n : Nat) : (wasB n).length = 2 * n + 1 := by simp [wasB]; omega
theorem now_len (n : Nat) (c : List UInt8) : (nowB n c).length = 2 * n + c.length := by simp [nowB]; omega
theorem now_was {n : Nat} {c : List UInt8} : nowB n c = wasB n ↔ c = [120] := by
  unfold nowB wasB
  rw [List.append_cancel_left_eq, show (120 :: List.replicate n 41 : List UInt8) = [120] ++ List.replicate n 41 from rfl, List.append_cancel_right_eq]
/-- what the unknowns are -/
structure RhoD (n : Nat) (ρ : Rho) : Prop where
  c : (ρ.s 0).length ≤ 10
  s1 : ρ.s 1 = (wasB n).take (frF (wasB n) (nowB n (ρ.s 0)))
  s2 : ρ.s 2 = midF (wasB n) (nowB n (ρ.s 0))
  s3 : ρ.s 3 = (wasB n).drop ((wasB n).length - enF (wasB n) (nowB n (ρ.s 0)))
  s4 : ρ.s 4 = midG (wasB n) (nowB n (ρ.s 0))
  n8 : n ≤ 8
  tN : ρ.s 0 ≠ [120] → ∀ w, Calls Tryz.prog 250 #[.string (bstr (nowB n (ρ.s 0)))] w (fun e w' => e = .returned (.agg #[.int .i64 (nowB n (ρ.s 0)).length, .int .i64 (ρ.v 15), .int .i64 (ρ.v 16), .int .i64 (ρ.v 17)]) ∧ Ext none' w w')
  tX : ρ.s 0 = [120] → ρ.v 15 = 0 ∧ ρ.v 16 = 2 * n + 1 ∧ ρ.v 17 = 2 * n + 1
  tM : ρ.s 2 ≠ [] → ∀ w, Calls Tryz.prog 250 #[.string (bstr (ρ.s 1 ++ ρ.s 3))] w (fun e w' => e = .returned (.agg #[.int .i64 (ρ.s 1 ++ ρ.s 3).length, .int .i64 (ρ.v 20), .int .i64 (ρ.v 21), .int .i64 (ρ.v 22)]) ∧ Ext none' w w')
  tE : ρ.s 4 = [] → ρ.v 15 = ρ.v 20 ∧ ρ.v 16 = ρ.v 21 ∧ ρ.v 17 = ρ.v 22
  p : ρ.v 18 = if ρ.s 2 = [] then (if ρ.s 4 = [] then (p0N n : Int) else p1N n) else (if ρ.s 4 = [] then (p1N n : Int) else p2N n)
  low : lowF (ρ.v 100) 8 = (n - 1 : Nat)
section
variable {n : Nat} {ρ : Rho} (h : RhoD n ρ)
include h
theorem RhoD.was : ρ.s 1 ++ ρ.s 2 ++ ρ.s 3 = wasB n := by rw [h.s1, h.s2, h.s3]; exact mid_was
theorem RhoD.now : ρ.s 1 ++ ρ.s 4 ++ ρ.s 3 = nowB n (ρ.s 0) := by rw [h.s1, h.s4, h.s3]; exact mid_now
theorem RhoD.len1 : (ρ.s 1).length = frF (wasB n) (nowB n (ρ.s 0)) := by rw [h.s1]; exact mid_len1
theorem RhoD.len2 : (ρ.s 2).length = (wasB n).length - frF (wasB n) (nowB n (ρ.s 0)) - enF (wasB n) (nowB n (ρ.s 0)) := by rw [h.s2]; exact mid_len2
theorem RhoD.n1 : n ≤ (ρ.s 1).length := by
  rw [h.len1]
  have := lcp_app (p := List.replicate n 40) (l := 120 :: List.replicate n 41) (m := ρ.s 0 ++ List.replicate n 41)
  rw [List.length_replicate] at this
  exact this
theorem RhoD.lenW : (ρ.s 1).length + (ρ.s 2).length + (ρ.s 3).length = 2 * n + 1 := by
  have := congrArg List.length h.was
  rw [was_len, List.length_append, List.length_append] at this
  exact this
theorem RhoD.lenN : (ρ.s 1).length + (ρ.s 4).length + (ρ.s 3).length = 2 * n + (ρ.s 0).length := by
  have := congrArg List.length h.now
  rw [now_len, List.length_append, List.length_append] at this
  exact this
theorem RhoD.xx (h2 : ρ.s 2 = []) (h4 : ρ.s 4 = []) : ρ.s 0 = [120] := by
  have a := h.was
  have b := h.now
  rw [h2] at a
  rw [h4] at b
  exact now_was.1 (b.symm.trans a)
omit h in
theorem no0_nil {i : Nat} (hq : 0 ≤ (no0 (4 * i + 1)).den ρ) : ρ.s i = [] := by
  simp only [no0, Lin.den, dts, Rho.at_l] at hq
  exact List.eq_nil_of_length_eq_zero (by omega)
omit h in
theorem is1_ne {i : Nat} (hq : 0 ≤ (is1 (4 * i + 1)).den ρ) : ρ.s i ≠ [] := fun e => by
  simp only [is1, Lin.den, dts, Rho.at_l, e] at hq
  simp at hq
omit h in
theorem at_x : ρ.at 15367 = if ρ.s 0 = [120] then 1 else 0 := ρ.at_e 0 120 (by omega)
omit h in
theorem isX_ok (hq : 0 ≤ isX.den ρ) : ρ.s 0 = [120] := by
  simp only [isX, Lin.den, dts, at_x] at hq
  split at hq
  · assumption
  · omega
omit h in
theorem notX_ok (hq : 0 ≤ notX.den ρ) : ρ.s 0 ≠ [120] := fun e => by
  simp only [notX, Lin.den, dts, at_x, e] at hq
  simp at hq
omit h in
theorem rs0_ok (ρ : Rho) : RulesOk ρ rs0 := ⟨fun g x y hm => by simp [rs0] at hm, fun g x y hm => by simp [rs0] at hm⟩
theorem rsW_ok : RulesOk ρ (rsW n) := ⟨fun g x y hm _ => by
  simp only [rsW, List.mem_cons, Prod.mk.injEq, List.not_mem_nil, or_false] at hm
  obtain ⟨rfl, rfl, rfl⟩ := hm
  rw [was_den, ← h.was]
  simp [denS, Pc.den], fun g x y hm => by simp [rsW] at hm⟩
theorem rsT_ok : RulesOk ρ (rsT n) := by
  have e1 : ∀ {g : PC} {e : Lin}, Sat ρ g → e ∈ g → 0 ≤ e.den ρ := fun hs he => hs _ he
  have v (i : Nat) : (va (2 * i)).den ρ = ρ.v i := by simp [va, Lin.den, dts, Rho.at_v]
  have k (x : Int) : (Lin.mk x []).den ρ = x := const_den
  refine ⟨fun g x y hm hs => ?_, fun g x y hm hs => ?_⟩
  · simp only [rsT, List.mem_cons, Prod.mk.injEq, List.not_mem_nil, or_false] at hm
    rcases hm with ⟨rfl, rfl, rfl⟩ | ⟨rfl, rfl, rfl⟩ | ⟨rfl, rfl, rfl⟩ | ⟨rfl, rfl, rfl⟩ | ⟨rfl, rfl, rfl⟩ | ⟨rfl, rfl, rfl⟩ | ⟨rfl, rfl, rfl⟩
    · rw [now_den, ← h.now]; simp [denS, Pc.den]
    · have h2 := no0_nil (i := 2) (e1 hs (by simp))
      rw [now_den, ← h.now]; simp [denS, Pc.den, h2]
    · have h3 := no0_nil (i := 3) (e1 hs (by simp))
      rw [now_den, ← h.now]; simp [denS, Pc.den, h3]
    · have h2 := no0_nil (i := 2) (e1 hs (by simp))
      have h3 := no0_nil (i := 3) (e1 hs (by simp))
      rw [now_den, ← h.now]; simp [denS, Pc.den, h2, h3]
    · have h4 := no0_nil (i := 4) (e1 hs (by simp))
      rw [now_den, ← h.now]; simp [denS, Pc.den, h4]
    · have h2 := no0_nil (i := 2) (e1 hs (by simp))
      have h4 := no0_nil (i := 4) (e1 hs (by simp))
      rw [now_den, ← h.now]; simp [denS, Pc.den, h2, h4]
    · have hx := isX_ok (e1 hs (List.mem_cons_self))
      rw [now_den, was_den]; exact now_was.2 hx
  · have zz : Sat ρ [no0 9, no0 17] → ρ.s 0 = [120] := fun hs => h.xx (no0_nil (i := 2) (hs _ (by simp))) (no0_nil (i := 4) (hs _ (by simp)))
    have xx : Sat ρ [isX] → ρ.s 0 = [120] := fun hs => isX_ok (hs _ (List.mem_cons_self))
    have p0 : ρ.s 2 = [] → ρ.s 4 = [] → ρ.v 18 = (p0N n : Int) := fun a b => by rw [h.p, if_pos a, if_pos b]
    have x2 : ρ.s 0 = [120] → ρ.s 2 = [] ∧ ρ.s 4 = [] := fun hx => by
      have hn := (now_was (n := n)).2 hx
      have := h.s2
      have g1 := h.s4
      rw [hn] at this g1
      have fr : frF (wasB n) (wasB n) = (wasB n).length := by
        have e : ∀ l : List UInt8, lcpL l l = l.length := fun l => by
          induction l with
          | nil => rfl
          | cons a l ih => simp [lcpL, ih]
        exact e _
      constructor
      · rw [this, midF, fr, List.drop_length]; simp
      · rw [g1, midG, fr, List.drop_length]; simp
    simp only [rsT, List.mem_cons, Prod.mk.injEq, List.not_mem_nil, or_false] at hm
    rcases hm with ⟨rfl, rfl, rfl⟩ | ⟨rfl, rfl, rfl⟩ | ⟨rfl, rfl, rfl⟩ | ⟨rfl, rfl, rfl⟩ | ⟨rfl, rfl, rfl⟩ | ⟨rfl, rfl, rfl⟩ | ⟨rfl, rfl, rfl⟩ | ⟨rfl, rfl, rfl⟩ | ⟨rfl, rfl, rfl⟩ | ⟨rfl, rfl, rfl⟩ | ⟨rfl, rfl, rfl⟩ | ⟨rfl, rfl, rfl⟩ | ⟨rfl, rfl, rfl⟩ | ⟨rfl, rfl, rfl⟩
    · rw [v 18, k]; exact p0 (no0_nil (i := 2) (e1 hs (by simp))) (no0_nil (i := 4) (e1 hs (by simp)))
    · rw [v 18, k, h.p, if_neg (is1_ne (i := 2) (e1 hs (by simp))), if_pos (no0_nil (i := 4) (e1 hs (by simp)))]; rfl
    · rw [v 18, k, h.p, if_pos (no0_nil (i := 2) (e1 hs (by simp))), if_neg (is1_ne (i := 4) (e1 hs (by simp)))]; rfl
    · rw [v 18, k, h.p, if_neg (is1_ne (i := 2) (e1 hs (by simp))), if_neg (is1_ne (i := 4) (e1 hs (by simp)))]; rfl
    · rw [v 18, k]; exact p0 (x2 (xx hs)).1 (x2 (xx hs)).2
    · rw [v 15, k]; exact (h.tX (zz hs)).1
    · rw [v 16, k]; exact (h.tX (zz hs)).2.1
    · rw [v 17, k]; exact (h.tX (zz hs)).2.2
    · rw [v 15, k]; exact (h.tX (xx hs)).1
    · rw [v 16, k]; exact (h.tX (xx hs)).2.1
    · rw [v 17, k]; exact (h.tX (xx hs)).2.2
    · rw [v 15, v 20]; exact (h.tE (no0_nil (i := 4) (e1 hs (by simp)))).1
    · rw [v 16, v 21]; exact (h.tE (no0_nil (i := 4) (e1 hs (by simp)))).2.1
    · rw [v 17, v 22]; exact (h.tE (no0_nil (i := 4) (e1 hs (by simp)))).2.2
theorem factsT_ok : Sat ρ (factsT n) := fun e he => by
  have l0 : ρ.at 1 = ((ρ.s 0).length : Int) := ρ.at_l 0
  have l1 : ρ.at 5 = ((ρ.s 1).length : Int) := ρ.at_l 1
  have l2 : ρ.at 9 = ((ρ.s 2).length : Int) := ρ.at_l 2
  have l3 : ρ.at 13 = ((ρ.s 3).length : Int) := ρ.at_l 3
  have l4 : ρ.at 17 = ((ρ.s 4).length : Int) := ρ.at_l 4
  have a1 := h.n1
  have a2 := h.lenW
  have a3 := h.lenN
  have ng (m : Nat) : Int.negOfNat m = -(m : Int) := by cases m <;> rfl
  simp only [factsT, List.mem_cons, List.not_mem_nil, or_false] at he
  rcases he with rfl | rfl | rfl | rfl | rfl | rfl | rfl | rfl
  all_goals simp only [va, Lin.den, dts, ng, l0, l1, l2, l3, l4, Int.ofNat_eq_natCast]
  all_goals omega
end
end X
end Go.Proofs.YtjmnenjejgahjaaGreatDoor
