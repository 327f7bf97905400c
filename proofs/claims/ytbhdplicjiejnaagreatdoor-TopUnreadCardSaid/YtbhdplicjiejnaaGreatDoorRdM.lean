/-
  TopUnread answers true.
-/
import Derived.Test.YtbhdplicjiejnaaGreatDoorRdT
import Derived.Test.YtbhdplicjiejnaaGreatDoorBase8
import Derived.Test.YtbhdplicjiejnaaGreatDoorRdK0
import Derived.Test.YtbhdplicjiejnaaGreatDoorRdKa
import Derived.Test.YtbhdplicjiejnaaGreatDoorRdKb
import Derived.Test.YtbhdplicjiejnaaGreatDoorRdKc
import Derived.Test.YtbhdplicjiejnaaGreatDoorRdKd
import Derived.Test.YtbhdplicjiejnaaGreatDoorRdKe
import Derived.Test.YtbhdplicjiejnaaGreatDoorRdKf
import Derived.Test.YtbhdplicjiejnaaGreatDoorRdKg
import Derived.Test.YtbhdplicjiejnaaGreatDoorRdKra
import Derived.Test.YtbhdplicjiejnaaGreatDoorRdKrb
import Derived.Test.YtbhdplicjiejnaaGreatDoorRdKrc
import Derived.Test.YtbhdplicjiejnaaGreatDoorRdKrd
import Derived.Test.YtbhdplicjiejnaaGreatDoorRdKre
import Derived.Test.YtbhdplicjiejnaaGreatDoorRdKrf
import Derived.Test.YtbhdplicjiejnaaGreatDoorRdKrg
import Derived.Test.YtbhdplicjiejnaaGreatDoorRdKh
import Derived.Test.YtbhdplicjiejnaaGreatDoorRdKi
import Derived.Test.YtbhdplicjiejnaaGreatDoorRdKj
set_option linter.unusedSimpArgs false
set_option linter.unusedVariables false
namespace Go.Proofs.YtbhdplicjiejnaaGreatDoor
namespace X
open Go.RowKit B
theorem awake_c : AwakeC := fun w =>
  of_callY (ρ := ⟨fun _ => 0, fun _ => []⟩) (vs := []) (fun args m nx pc hs => callBy_ok mixedO (smI_ok _) 1000000 5 args m nx pc hs) (fun e h => by cases h) awake_k rfl w
/-! ### The unknowns -/
/-- u: the text, or what is ahead of a bar or a break; b: the byte behind the bar; v: the rest -/
def rhoOf (x : Int) (t : Int × Int × Int) (u : List UInt8) (b : UInt8) (v g z : List UInt8) : Rho := ⟨fun j => match j with
  | 50 => t.1
  | 51 => t.2.1
  | 52 => t.2.2
  | 500 => 0
  | _ => x, fun j => match j with
  | 6 => u
  | 7 => [b]
  | 8 => v
  | 9 => g
  | 10 => z
  | _ => []⟩
section
variable {x : Int} {t : Int × Int × Int} {u v g z : List UInt8} {b : UInt8}
theorem rhoOf_u (hb : b ≠ 125) (hv : v.length ≤ 40) (hg : g.length ≤ 80) (hz : z.length ≤ 40) : RhoU (rhoOf x t u b v g z) :=
  ⟨rfl, fun e => hb (by have : [b] = [125] := e; simpa using this), hv, hg, hz, rfl⟩
theorem pcU_ok (hb : b ≠ 125) (hv : v.length ≤ 40) (hg : g.length ≤ 80) (hz : z.length ≤ 40) {more : PC} (hm : Sat (rhoOf x t u b v g z) more) : Sat (rhoOf x t u b v g z) (pcU more) := by
  have a6 : (rhoOf x t u b v g z).at 25 = (u.length : Int) := Rho.at_l _ 6
  have a7 : (rhoOf x t u b v g z).at 29 = 1 := Rho.at_l _ 7
  have a8 : (rhoOf x t u b v g z).at 33 = (v.length : Int) := Rho.at_l _ 8
  have a9 : (rhoOf x t u b v g z).at 37 = (g.length : Int) := Rho.at_l _ 9
  have a10 : (rhoOf x t u b v g z).at 41 = (z.length : Int) := Rho.at_l _ 10
  have a5 : (rhoOf x t u b v g z).at 1000 = 0 := Rho.at_v _ 500
  have ae : (rhoOf x t u b v g z).at 16063 = 0 := by
    refine (Rho.at_e _ 7 125 (by omega)).trans (if_neg fun e => hb ?_)
    have : [b] = [UInt8.ofNat 125] := e
    simpa using this
  refine sat_cons ?_ (sat_cons ?_ (sat_cons ?_ (sat_cons ?_ (sat_cons ?_ (sat_cons ?_ (sat_cons ?_ (sat_cons ?_ (sat_cons ?_ (sat_cons ?_ (sat_cons ?_ hm)))))))))) <;> simp only [Lin.den, dts, a6, a7, a8, a9, a10, a5, ae] <;> omega
theorem sat_n (h1 : 1 ≤ u.length) (h2 : u.length ≤ 40) : Sat (rhoOf x t u b v g z) [.mk (-1) [(25, 1)], .mk 40 [(25, -1)]] := by
  have a6 : (rhoOf x t u b v g z).at 25 = (u.length : Int) := Rho.at_l _ 6
  refine sat_cons ?_ (sat_cons ?_ sat_nil) <;> simp only [Lin.den, dts, a6] <;> omega
theorem sat_b (h2 : u.length + 1 ≤ 40) : Sat (rhoOf x t u b v g z) [.mk 39 [(25, -1)]] := by
  have a6 : (rhoOf x t u b v g z).at 25 = (u.length : Int) := Rho.at_l _ 6
  refine sat_cons ?_ sat_nil <;> simp only [Lin.den, dts, a6] <;> omega
theorem sat_c (h2 : u.length + 2 + v.length ≤ 40) : Sat (rhoOf x t u b v g z) [.mk 38 [(25, -1), (33, -1)]] := by
  have a6 : (rhoOf x t u b v g z).at 25 = (u.length : Int) := Rho.at_l _ 6
  have a8 : (rhoOf x t u b v g z).at 33 = (v.length : Int) := Rho.at_l _ 8
  refine sat_cons ?_ sat_nil <;> simp only [Lin.den, dts, a6, a8] <;> omega
theorem sat_l (h2 : u.length + 1 + v.length ≤ 40) : Sat (rhoOf x t u b v g z) [.mk 39 [(25, -1), (33, -1)]] := by
  have a6 : (rhoOf x t u b v g z).at 25 = (u.length : Int) := Rho.at_l _ 6
  have a8 : (rhoOf x t u b v g z).at 33 = (v.length : Int) := Rho.at_l _ 8
  refine sat_cons ?_ sat_nil <;> simp only [Lin.den, dts, a6, a8] <;> omega
theorem sat_s (h1 : u.length + 1 ≤ g.length) (h2 : u.length ≤ 40) : Sat (rhoOf x t u b v g z) [.mk (-1) [(37, 1), (25, -1)], .mk 40 [(25, -1)]] := by
  have a6 : (rhoOf x t u b v g z).at 25 = (u.length : Int) := Rho.at_l _ 6
  have a9 : (rhoOf x t u b v g z).at 37 = (g.length : Int) := Rho.at_l _ 9
  refine sat_cons ?_ (sat_cons ?_ sat_nil) <;> simp only [Lin.den, dts, a6, a9] <;> omega
theorem den_M : denS (rhoOf x t u b v g z) yM = u := by simp [yM, denS, Pc.den, rhoOf]
theorem den_B : denS (rhoOf x t u b v g z) yB = u ++ [124] := by simp [yB, denS, Pc.den, rhoOf]
theorem den_C : denS (rhoOf x t u b v g z) yC = u ++ 124 :: b :: v := by simp [yC, denS, Pc.den, rhoOf]
theorem den_L : denS (rhoOf x t u b v g z) yL = u ++ 10 :: v := by simp [yL, denS, Pc.den, rhoOf]
theorem hiS_app {l m : Str} (h : hiS l = true) (h' : hiS m = true) : hiS (appL l m) = true := by
  induction l with
  | nil => exact h'
  | cons a l ih =>
    cases a with
    | c n => exact ih h
    | a i =>
      simp only [hiS, Bool.and_eq_true] at h
      simp only [appL, hiS, Bool.and_eq_true]
      exact ⟨h.1, ih h.2⟩
theorem hiS_head (k : Nat) : hiS (headS k) = true := by
  unfold headS
  split <;> rfl
theorem head_len (ρ : Rho) (k : Nat) (Y : Str) : (denS ρ (appL (headS k) Y)).length ≤ 8 + (denS ρ Y).length := by
  have e : ∀ l m : Str, denS ρ (appL l m) = denS ρ l ++ denS ρ m := fun l m => by
    induction l with
    | nil => rfl
    | cons a l ih => rw [appL, denS_cons, denS_cons, ih, List.append_assoc]
  have h8 : (denS ρ (headS k)).length ≤ 8 := by
    unfold headS
    split <;> simp [denS, Pc.den]
  rw [e, List.length_append]
  omega
end
/-- what tally.Of says of the text -/
theorem tal_ex (l : List UInt8) (hl : l.length ≤ 1000) : ∃ t : Int × Int × Int, ∀ w, Calls Tryz.prog 232 #[.string (bstr l)] w (fun e w' => e = .returned (.agg #[.int .i64 l.length, .int .i64 t.1, .int .i64 t.2.1, .int .i64 t.2.2]) ∧ Ext none' w w') := by
  obtain ⟨t1, t2, t3, h1⟩ := tally_c l hl
  exact ⟨(t1, t2, t3), h1⟩
abbrev Good (x : Int) (s : List UInt8) (w : World) : Prop := Calls Tryz.prog 3 #[.string (bstr s), .int .i64 x] w (fun e w' => e = .returned (.bool true) ∧ Ext none' w w')
/-- a text of one of the three forms -/
theorem go_y {k : Nat} {Y : Str} {more : PC} (hY : hiS Y = true) (hk : readK k Y (pcU more) = true) (hk2 : topK (smG k Y (pcU more)) Y Y (pcU more) = true) {x : Int} {u v : List UInt8} {b : UInt8} (hb : b ≠ 125) (hv : v.length ≤ 40) (hx : lowF x 5 = k) (hu : u.length ≤ 40) (pu : Plain u) (b6 : k = 2 → (124 : UInt8) ∉ u)
    (hm : ∀ t g z, Sat (rhoOf x t u b v g z) more) (s : List UInt8) (hs : ∀ t g z, denS (rhoOf x t u b v g z) Y = s) (hlen : s.length ≤ 40) (pl : Plain s) (lf : (10 : UInt8) ∉ s) (w : World) : Good x s w := by
  have l1 := txtF_len u
  have l2 := zerF_len u
  let ρ0 := rhoOf x (0, 0, 0) u b v (txtF u) (zerF u)
  obtain ⟨t, ht⟩ := tal_ex (denS ρ0 (appL (headS k) Y)) (by have := head_len ρ0 k Y; rw [hs] at this; omega)
  let ρ := rhoOf x t u b v (txtF u) (zerF u)
  have hU : RhoU ρ := rhoOf_u hb hv (by omega) (by omega)
  have he : ∀ l : Str, denS ρ l = denS ρ0 l := fun l => rfl
  have hRY : RhoY k Y ρ := {
    u := hU
    hi := hY
    len := by show (denS (rhoOf _ _ _ _ _ _ _) Y).length ≤ 40; rw [hs]; exact hlen
    pl := by show Plain (denS (rhoOf _ _ _ _ _ _ _) Y); rw [hs]; exact pl
    lf := by show (10 : UInt8) ∉ denS (rhoOf _ _ _ _ _ _ _) Y; rw [hs]; exact lf
    t := ⟨hx, hiS_app (hiS_head k) hY, fun w => ht w⟩
    l6 := hu
    p6 := pu
    b6 := b6
    s9 := rfl
    s10 := rfl }
  obtain ⟨I, hI⟩ := ccn_lf hU (Z := Y) hRY.len hRY.lf (vk := [])
  have := top_of (Y := Y) (fun ρ' a => smG_ok awake_c hk (hRY.agree a)) hI (pcU_ok hb hv (by omega) (by omega) (hm t _ _)) hk2 w
  rw [show denS ρ Y = s from hs t _ _] at this
  exact this
theorem split_at (c : UInt8) : ∀ l : List UInt8, c ∈ l → ∃ u v, l = u ++ c :: v ∧ c ∉ u
  | a :: l, h => by
    by_cases e : a = c
    · exact ⟨[], l, by rw [e]; rfl, by simp⟩
    · have h : c ∈ l := by
        rcases List.mem_cons.1 h with h | h
        · exact absurd h.symm e
        · exact h
      obtain ⟨u, v, h1, h2⟩ := split_at c l h
      exact ⟨a :: u, v, by rw [h1]; rfl, by simp [h2]; exact fun h => e h.symm⟩
theorem go_e {k : Nat} (hk : topE (smB k yM) [] [] = true) {x : Int} (hx : lowF x 5 = k) (w : World) : Good x [] w := by
  obtain ⟨t, ht⟩ := tal_ex [] (by simp)
  let ρ := rhoOf x t [] 0 [] [] []
  have hT : RhoT k yM ρ := ⟨hx, rfl, fun w => by rw [show denS ρ yM = [] from den_M]; exact ht w⟩
  exact topE_of (ρ := ρ) (Y := []) (smB_ok awake_c hT) sat_nil hk w
theorem topUnread_c (x : Int) (s : List UInt8) (w : World) : Good x s w := by
  by_cases hl : s.length ≤ 40
  · by_cases hp : Plain s
    · by_cases hf : (10 : UInt8) ∈ s
      · -- a break
        obtain ⟨u, v, rfl, hu⟩ := split_at 10 s hf
        rw [List.length_append, List.length_cons] at hl
        let ρ := rhoOf x (0, 0, 0) u 0 v [] []
        have hU : RhoU ρ := rhoOf_u (by decide) (by omega) (by simp) (by simp)
        obtain ⟨I, hI⟩ := ccn_lf hU (Z := yM) (by show (denS (rhoOf _ _ _ _ _ _ _) yM).length ≤ 40; rw [den_M]; omega) (by show (10 : UInt8) ∉ denS (rhoOf _ _ _ _ _ _ _) yM; rw [den_M]; exact hu) (vk := [])
        have e : denS ρ yL = u ++ 10 :: v := den_L
        have := top_of (Y := yL) (fun ρ' a => smL_ok awake_c (hU.agree a) (by rw [hiS_den a rfl, e, List.length_append, List.length_cons]; omega) (by rw [hiS_den a rfl, e]; exact hp)) hI (pcU_ok (by decide) (by omega) (by simp) (by simp) (sat_l (by omega))) k_l w
        rw [e] at this
        exact this
      · obtain ⟨b1, b2⟩ := lowF_ok (x := x) (n := 5) (by omega)
        have hcase : lowF x 5 = (0 : Nat) ∨ lowF x 5 = (1 : Nat) ∨ lowF x 5 = (2 : Nat) ∨ lowF x 5 = (3 : Nat) ∨ lowF x 5 = (4 : Nat) := by omega
        by_cases he : s = []
        · subst he
          rcases hcase with e | e | e | e | e
          · exact go_e k_e0 e w
          · exact go_e k_e1 e w
          · exact go_e k_e2 e w
          · exact go_e k_e3 e w
          · exact go_e k_e4 e w
        · have hne : 1 ≤ s.length := by
            cases s with
            | nil => exact absurd rfl he
            | cons a l => simp
          have go : ∀ k : Nat, lowF x 5 = k → (k = 2 → (124 : UInt8) ∉ s) → readK k yM pcN = true → topK (smG k yM pcN) yM yM pcN = true → Good x s w := fun k e h6 h1 h2 =>
            go_y rfl h1 h2 (b := 0) (v := []) (by decide) (by simp) e hl hp h6 (fun t g z => sat_n hne hl) s (fun t g z => den_M) hl hp hf w
          rcases hcase with e | e | e | e | e
          · exact go 0 e (by omega) r_n0 k_n0
          · exact go 1 e (by omega) r_n1 k_n1
          · by_cases hbar : (124 : UInt8) ∈ s
            · obtain ⟨u, v, rfl, hu⟩ := split_at 124 s hbar
              rw [List.length_append, List.length_cons] at hl
              have pu : Plain u := fun b hb => hp b (by simp [hb])
              cases v with
              | nil =>
                exact go_y rfl r_n2b k_n2b (b := 0) (v := []) (by decide) (by simp) e (by omega) pu (fun _ => hu) (fun t g z => sat_b (by simp at hl; omega)) _ (fun t g z => den_B) (by rw [List.length_append, List.length_cons]; omega) hp hf w
              | cons b v =>
                rw [List.length_cons] at hl
                exact go_y rfl r_n2c k_n2c (b := b) (v := v) (hp b (by simp)).2.1 (by omega) e (by omega) pu (fun _ => hu) (fun t g z => sat_c (by omega)) _ (fun t g z => den_C) (by rw [List.length_append, List.length_cons, List.length_cons]; omega) hp hf w
            · exact go 2 e (fun _ => hbar) r_n2 k_n2
          · exact go 3 e (by omega) r_n3 k_n3
          · exact go 4 e (by omega) r_n4 k_n4
    · -- one of the three bytes
      let ρ := rhoOf x (0, 0, 0) s 0 [] (guardF s) []
      obtain ⟨g1, g2, g3⟩ := guardF_len s
      have hsp : ∃ b ∈ s, b = 36 ∨ b = 125 ∨ b = 92 := by
        refine Classical.byContradiction fun hn => hp fun b hb => ⟨fun e => hn ⟨b, hb, .inl e⟩, fun e => hn ⟨b, hb, .inr (.inl e)⟩, fun e => hn ⟨b, hb, .inr (.inr e)⟩⟩
      have hU : RhoU ρ := rhoOf_u (by decide) (by simp) (by omega) (by simp)
      have hs : Sat ρ pcS := pcU_ok (by decide) (by simp) (by omega) (by simp) (sat_s (g3 hsp) hl)
      have := topE_of (ρ := ρ) (Y := yM) (smS_ok awake_c hU hl rfl) hs k_s w
      rw [show denS ρ yM = s from den_M] at this
      exact this
  · let ρ := rhoOf x (0, 0, 0) s 0 [] [] []
    have a6 : ρ.at 25 = (s.length : Int) := Rho.at_l _ 6
    have := topE_of (ρ := ρ) (Y := yM) (smA_ok awake_c ρ) (pc := [.mk (-41) [(25, 1)]]) (sat_cons (by simp only [Lin.den, dts, a6]; omega) sat_nil) k_x w
    rw [show denS ρ yM = s from den_M] at this
    exact this
end X
end Go.Proofs.YtbhdplicjiejnaaGreatDoor
