/-
  TopEdits: RtW, RtN, RtY.
-/
import Derived.Test.YtebfahobllghnaaGreatDoorEdE6
import Derived.Test.YtebfahobllghnaaGreatDoorRtXa
import Derived.Test.YtebfahobllghnaaGreatDoorEdB7
import Derived.Test.YtebfahobllghnaaGreatDoorRtG0
import Derived.Test.YtebfahobllghnaaGreatDoorRtG1
import Derived.Test.YtebfahobllghnaaGreatDoorRtG2
import Derived.Test.YtebfahobllghnaaGreatDoorRtG3
import Derived.Test.YtebfahobllghnaaGreatDoorRtG4
import Derived.Test.YtebfahobllghnaaGreatDoorRtM0
import Derived.Test.YtebfahobllghnaaGreatDoorRtM1
import Derived.Test.YtebfahobllghnaaGreatDoorRtM2
import Derived.Test.YtebfahobllghnaaGreatDoorRtM3
import Derived.Test.YtebfahobllghnaaGreatDoorRtM4
import Derived.Test.YtebfahobllghnaaGreatDoorRtM5
import Derived.Test.YtebfahobllghnaaGreatDoorRtM6
import Derived.Test.YtebfahobllghnaaGreatDoorRtM7
import Derived.Test.YtebfahobllghnaaGreatDoorEdD1
set_option linter.unusedSimpArgs false
set_option linter.unusedVariables false
namespace Go.Proofs.YtebfahobllghnaaGreatDoor
namespace X
open Go.RowKit B
set_option maxRecDepth 1000000
section
variable {ρ : Rho}
theorem CallR.rd {P : Program} {m : Mem} {nx : Nat} {f : Nat} {args : List SV} {v : SV} {pc' : PC} (he : ∀ args w, (callFunc f args).run P w = .ok (.enter f args) w) (hs : Sat ρ pc') (h : ∀ (θ : Th) (w : World) (vs : List Value), MemOk ρ θ m.get w → dens ρ θ args = some vs → ∃ u, den ρ θ v = some u ∧ Calls P f vs.toArray w (fun e w' => e = .returned u ∧ Ext none' w w')) : CallR P ρ f args m nx ⟨v, m, nx, pc'⟩ :=
  ⟨he, hs, Nat.le_refl _, fun t h1 h2 => absurd h1 h2, fun w θ vs hvs hM _ => by
    obtain ⟨u, h1, h2⟩ := h θ w vs hM hvs
    exact calls_mono h2 fun e w' ⟨e1, e2⟩ => ⟨u, θ, e1, SP.still' hM e2, h1⟩⟩
theorem enterAwake (args : Array Value) (w : World) : (callFunc 5 args).run Tryz.prog w = .ok (.enter 5 args) w := enter_run (fn := Tryz.f5) (by kernel_rfl) (by kernel_rfl) rfl args w
theorem awake_c (w : World) : Calls Tryz.prog 5 #[] w (fun e w' => e = .returned (.bool true) ∧ Ext none' w w') := by
  obtain ⟨r, h1, _, h2⟩ := pure_of (ρ := ⟨fun _ => 0, fun _ => []⟩) (vs := []) (g := go (withF 78 (sortedKeys [132, 289] 3) smZ) 5) (K := fun v _ _ _ => isTr v) (go_c sortS_okW _) sat_nil aw_k rfl
  refine calls_mono (h2 w) fun e w' ⟨v, θ, q1, q2, q3⟩ => ?_
  unfold isTr at h1
  split at h1
  · rename_i hv
    rw [hv] at q2
    cases q2
    exact ⟨q1, q3⟩
  · cases h1
theorem awT_ok : CallY Tryz.prog ρ 5 awT := fun args m nx pc hs => by
  unfold awT
  split
  · refine Yl.pure (⟨.b true, m, nx, pc⟩ : O4) (CallR.pur enterAwake hs fun θ w vs hvs => ?_)
    cases hvs
    exact ⟨_, rfl, awake_c w⟩
  · exact Yl.no
theorem enterLong (args : Array Value) (w : World) : (callFunc 4 args).run Tryz.prog w = .ok (.enter 4 args) w := enter_run (fn := Tryz.f4) (by kernel_rfl) (by kernel_rfl) rfl args w
def txL (tx : Nat → List UInt8) (T : Nat) : List ByteArray := (List.range T).map fun j => bstr (tx j)
theorem tx_sl {θ : Th} {m : Mem} {w : World} {v : Value} {T : Nat} {tx : Nat → List UInt8} (hT : ρ.v 10000 = T) (ht : ∀ j, ρ.s (10100 + j) = tx j) (hM : MemOk ρ θ m.get w) (hm : m.get 2 = some (.cq 10000 10100)) (hv : den ρ θ (.sv 2 (.mk 0 [(20000, 1)])) = some v) : SlT StrE w v (txL tx T) := by
  have el : (Lin.mk 0 [(20000, 1)]).den ρ = T := (lv_v 10000).trans hT
  have hlen : (txL tx T).length = T := by unfold txL; rw [List.length_map, List.length_range]
  obtain ⟨g, c, f1, ⟨f2, f3⟩, f4⟩ := hM.holds 2 _ hm
  simp only [den, f1, Option.bind_some, el] at hv
  have row : ∀ j u, (StrE.row (txL tx T))[j]? = some u → j < T ∧ u = .string (bstr (tx j)) := fun j u hj => by
    have e : ∀ l : List ByteArray, StrE.row l = l.map Value.string := fun l => by
      induction l with
      | nil => rfl
      | cons a l ih =>
        show Value.string a :: StrE.row l = _
        rw [ih]; rfl
    rw [e, List.getElem?_map] at hj
    unfold txL at hj
    rw [List.getElem?_map] at hj
    rcases Nat.lt_or_ge j T with h | h
    · rw [List.getElem?_range h] at hj
      exact ⟨h, (Option.some.inj hj).symm⟩
    · rw [List.getElem?_eq_none (by rw [List.length_range]; exact h)] at hj
      cases hj
  have cN : cqN ρ 10000 = T := by unfold cqN; rw [if_neg (by omega), hT]; rfl
  have cV : ∀ j, cqV ρ 10000 10100 j = .string (bstr (tx j)) := fun j => by unfold cqV; rw [if_neg (by omega), ht]
  rcases f3 with f3 | ⟨f3, f5⟩
  · exact absurd f3 (by omega)
  · cases c with
    | zero =>
      have hv : (if (T : Int) = 0 then some (Value.slice none 0 0) else none) = some v := hv
      by_cases h0 : (T : Int) = 0
      · rw [if_pos h0] at hv
        cases hv
        have : T = 0 := by omega
        subst this
        exact SlT.nil _ _
      · rw [if_neg h0] at hv
        cases hv
    | succ c =>
      rw [show c + 1 - 1 = c from rfl] at f3 f4 f5
      have hv : (if 0 ≤ (T : Int) then some (Value.slice (some (adrC (g, c))) (T : Int).toNat (capC (g, c))) else none) = some v := hv
      rw [if_pos (by omega)] at hv
      cases hv
      rw [hT] at f3
      refine ⟨.inr ⟨_, _, by rw [hlen]; rfl, by rw [hlen]; exact f3, f5⟩, fun j u hj => ?_⟩
      obtain ⟨q1, rfl⟩ := row j u hj
      rw [← cV j]
      exact f4 j (by rw [cN]; exact q1)
theorem longT_ok {T : Nat} {tx : Nat → List UInt8} (hT : ρ.v 10000 = T) (ht : ∀ j, ρ.s (10100 + j) = tx j) (hl : longL 80 (txL tx T) = false) : CallY Tryz.prog ρ 4 longT := fun args m nx pc hs => by
  unfold longT
  split
  · exact go_c (smZ_okN _ _) _ _ m nx pc hs
  · split
    · rename_i hm
      refine Yl.pure (⟨.b false, m, nx, pc⟩ : O4) (CallR.rd enterLong hs fun θ w vs hM hvs => ?_)
      simp only [dens, Option.bind_eq_some_iff, Option.map_eq_some_iff] at hvs
      obtain ⟨a, ha, b, ⟨c, hc, d, hd, rfl⟩, rfl⟩ := hvs
      cases ha
      cases hd
      have := long_c 80 c (txL tx T) w (tx_sl hT ht hM hm hc) (by omega)
      rw [hl] at this
      exact ⟨_, rfl, this⟩
    · exact Yl.no
  · exact Yl.no
theorem byT_ok {m k : Nat} {t : Int} (hv : ρ.v 2990 = t) (hk : lowF t (m + 1) = k) (hm : m ≤ 8) : CallY Tryz.prog ρ 7 (byT m k) := fun args mm nx pc hs => by
  unfold byT
  split
  · split
    · rename_i hj
      have hj := Nat.eq_of_beq_eq_true hj
      subst hj
      refine Yl.pure (⟨.i .i64 (.ofNat k), mm, nx, pc⟩ : O4) (low_y hs (x := t) (k := (m : Int) + 1) ((lv_v 2990).trans hv) (fun θ => rfl) (by omega) (by omega) fun θ => ?_)
      rw [hk]; rfl
    · exact Yl.no
  · exact Yl.no
end
theorem wS_a : ∀ m, m ≤ 8 → ∀ i, i ≤ m → (wS m i).all (fun p => match p with | .a k => Nat.blt k 60 | _ => false) = true := by
  intro m hm i hi
  have h1 : m = 0 ∨ m = 1 ∨ m = 2 ∨ m = 3 ∨ m = 4 ∨ m = 5 ∨ m = 6 ∨ m = 7 ∨ m = 8 := by omega
  have h2 : i = 0 ∨ i = 1 ∨ i = 2 ∨ i = 3 ∨ i = 4 ∨ i = 5 ∨ i = 6 ∨ i = 7 ∨ i = 8 := by omega
  rcases h1 with h1 | h1 | h1 | h1 | h1 | h1 | h1 | h1 | h1 <;> rcases h2 with h2 | h2 | h2 | h2 | h2 | h2 | h2 | h2 | h2 <;> subst h1 <;> subst h2 <;> first | rfl | (exfalso; omega)
namespace Ag
variable {d : Ag} {q q' : Nat → List UInt8}
theorem den_q {l : Str} (h : l.all (fun p => match p with | .a k => Nat.blt k 60 | _ => false) = true) : denS (d.rho q) l = denS (d.rho q') l := by
  induction l with
  | nil => rfl
  | cons p l ih =>
    rw [List.all_cons, Bool.and_eq_true] at h
    rw [denS_cons, denS_cons, ih h.2]
    congr 1
    have h1 := h.1
    split at h1
    · rename_i k
      have hk : k < 60 := by simpa [Nat.blt_eq] using h1
      show d.rS' q k = d.rS' q' k
      unfold rS'
      rw [if_pos hk, if_pos hk]
    · cases h1
def wD (d : Ag) (i : Nat) : List UInt8 := denS (d.rho fun _ => []) (wS d.m i)
theorem wD_eq (h : d.Ok) {i : Nat} (hi : i ≤ d.m) : denS (d.rho q) (wS d.m i) = d.wD i := den_q (wS_a _ (m8 h) _ hi)
theorem wD_l (h : d.Ok) {i : Nat} (hi : i ≤ d.m) : (d.wD i).length ≤ 300 := by have := wl_300 (q := fun _ => []) h hi; unfold wl at this; unfold wD; omega
theorem sets (h : d.Ok) {Q : List UInt8} (hQ : PcOk Q) (hs : sumQ Q = d.W.length) : ∃ q : Nat → List UInt8, q 0 = Q ∧ ∀ e ∈ setE d.m, KnownOk Tryz.prog 27 (kSe d.m e) (d.rho q) := by
  have hW : d.wD d.m = d.W := by unfold wD; rw [wS_m, sg_W h]
  -- one set, from pieces to pieces
  let St : Nat → Nat → List UInt8 → List UInt8 → Prop := fun i j Q Q' => PcOk Q' ∧ sumQ Q' = (d.wD j).length ∧ ∀ (q : Nat → List UInt8) (a b : Nat), (d.rho q).s a = Q → (d.rho q).s b = Q' → KnownOk Tryz.prog 27 (kSetM (wS d.m i) (wS d.m j) a b (rn i) (rb i) (rn j) (rb j)) (d.rho q)
  have one : ∀ i j, i ≤ d.m → j ≤ d.m → ∀ Q, PcOk Q → sumQ Q = (d.wD i).length → ∃ Q', St i j Q Q' := fun i j hi hj Q hQ hs => by
    obtain ⟨Q', p1, p2, p3⟩ := set_ex (W := d.wD i) (N := d.wD j) hQ hs (wD_l h hi) (wD_l h hj)
    refine ⟨Q', p1, p2, fun q a b ha hb => ?_⟩
    have ri := topR (q := q) h
    have xi := x_ok (q := q) h hi
    have xj := x_ok (q := q) h hj
    have wi : d.wl q i = (d.wD i).length := by unfold wl; rw [wD_eq h hi]
    have wj : d.wl q j = (d.wD j).length := by unfold wl; rw [wD_eq h hj]
    rw [wi] at xi
    rw [wj] at xj
    exact p3 (d.rho q) _ _ a b _ _ _ _ (d.x i) (d.x j) (wD_eq h hi) (wD_eq h hj) ha hb (ri.row i hi) (ri.row j hj) ⟨xi.1.1, xi.1.2, xi.2.2⟩ ⟨xj.1.1, xj.1.2, xj.2.1, xj.2.2⟩
  obtain ⟨Q1, h1⟩ := one d.m 0 (Nat.le_refl _) (Nat.zero_le _) Q hQ (by rw [hW]; exact hs)
  obtain ⟨Q2, h2⟩ := one 0 d.m (Nat.zero_le _) (Nat.le_refl _) Q1 h1.1 h1.2.1
  have nx : ∀ k R, ∃ R', PcOk R → sumQ R = (d.wD (d.m - k)).length → St (d.m - k) (d.m - (k + 1)) R R' := fun k R => by
    by_cases c : PcOk R ∧ sumQ R = (d.wD (d.m - k)).length
    · obtain ⟨R', hR⟩ := one (d.m - k) (d.m - (k + 1)) (Nat.sub_le _ _) (Nat.sub_le _ _) R c.1 c.2
      exact ⟨R', fun _ _ => hR⟩
    · exact ⟨[], fun a b => absurd ⟨a, b⟩ c⟩
  let F : Nat → List UInt8 → List UInt8 := fun k R => Classical.choose (nx k R)
  have hF : ∀ k R, PcOk R → sumQ R = (d.wD (d.m - k)).length → St (d.m - k) (d.m - (k + 1)) R (F k R) := fun k R => Classical.choose_spec (nx k R)
  let f : Nat → List UInt8 := fun k => Nat.rec Q (fun k R => F k R) k
  have f0 : f 0 = Q := rfl
  have fS : ∀ k, f (k + 1) = F k (f k) := fun k => rfl
  have hf : ∀ k, PcOk (f k) ∧ sumQ (f k) = (d.wD (d.m - k)).length := fun k => by
    induction k with
    | zero => exact ⟨hQ, by rw [Nat.sub_zero, hW]; exact hs⟩
    | succ k ih =>
      have := hF k (f k) ih.1 ih.2
      rw [fS]
      exact ⟨this.1, this.2.1⟩
  have st : ∀ k, St (d.m - k) (d.m - (k + 1)) (f k) (f (k + 1)) := fun k => by
    rw [fS]
    exact hF k (f k) (hf k).1 (hf k).2
  let q : Nat → List UInt8 := fun j => if j = 0 then Q else if j = 1 then Q1 else if j = 2 then Q2 else f (j - 9)
  have q0 : (d.rho q).s 60 = Q := (s_q (q := q) (j := 0) (by omega)).trans rfl
  have q1 : (d.rho q).s 61 = Q1 := (s_q (q := q) (j := 1) (by omega)).trans rfl
  have q2 : (d.rho q).s 62 = Q2 := (s_q (q := q) (j := 2) (by omega)).trans rfl
  have qf : ∀ k, k < 100 → (d.rho q).s (70 + k) = f (k + 1) := fun k hk => by
    rw [show 70 + k = 60 + (10 + k) by omega, s_q (q := q) (by omega)]
    show (if 10 + k = 0 then Q else if 10 + k = 1 then Q1 else if 10 + k = 2 then Q2 else f (10 + k - 9)) = _
    rw [if_neg (by omega), if_neg (by omega), if_neg (by omega), show 10 + k - 9 = k + 1 by omega]
  refine ⟨q, rfl, fun e he => ?_⟩
  rcases List.mem_cons.1 (show e ∈ (⟨60, d.m, 0, 61⟩ : StE) :: ⟨61, 0, d.m, 62⟩ :: ⟨60, d.m, Nat.pred d.m, 70⟩ :: _ from he) with rfl | he
  · exact h1.2.2 q 60 61 q0 q1
  · rcases List.mem_cons.1 he with rfl | he
    · exact h2.2.2 q 61 62 q1 q2
    · rcases List.mem_cons.1 he with rfl | he
      · have := (st 0).2.2 q 60 70 (q0.trans f0.symm) (qf 0 (by omega))
        rw [Nat.sub_zero] at this
        exact this
      · have key : ∀ (n a : Nat), 1 ≤ a → a + n ≤ 50 → ∀ e ∈ mapL (fun j => (⟨Nat.add 69 j, Nat.sub d.m j, Nat.pred (Nat.sub d.m j), Nat.add 70 j⟩ : StE)) (upto a n), KnownOk Tryz.prog 27 (kSe d.m e) (d.rho q) := fun n => by
          induction n with
          | zero => intro a _ _ e he; cases he
          | succ n ih =>
            intro a ha hn e he
            rcases List.mem_cons.1 (show e ∈ _ :: mapL _ (upto (a + 1) n) from he) with rfl | he
            · have := (st a).2.2 q (69 + a) (70 + a) (by rw [show 69 + a = 70 + (a - 1) by omega, qf _ (by omega), show a - 1 + 1 = a by omega]) (qf a (by omega))
              exact this
            · exact ih (a + 1) (by omega) (by omega) e he
        exact key (Nat.pred d.m) 1 (Nat.le_refl _) (by have := m8 h; have : Nat.pred d.m ≤ d.m := Nat.pred_le _; omega) e he
end Ag
end X
end Go.Proofs.YtebfahobllghnaaGreatDoor
namespace Go.Proofs.YtebfahobllghnaaGreatDoor
namespace X
open Go.RowKit B
set_option maxRecDepth 1000000
theorem fdK_all : ∀ m k : Nat, m ≤ 8 → k ≤ m → fdK m k = true
  | 0, 0, _, _ => fdx0y0
  | 0, k + 1, _, h => absurd h (by omega)
  | 1, 0, _, _ => fdx1y0
  | 1, 1, _, _ => fdx1y1
  | 1, k + 2, _, h => absurd h (by omega)
  | 2, 0, _, _ => fdx2y0
  | 2, 1, _, _ => fdx2y1
  | 2, 2, _, _ => fdx2y2
  | 2, k + 3, _, h => absurd h (by omega)
  | 3, 0, _, _ => fdx3y0
  | 3, 1, _, _ => fdx3y1
  | 3, 2, _, _ => fdx3y2
  | 3, 3, _, _ => fdx3y3
  | 3, k + 4, _, h => absurd h (by omega)
  | 4, 0, _, _ => fdx4y0
  | 4, 1, _, _ => fdx4y1
  | 4, 2, _, _ => fdx4y2
  | 4, 3, _, _ => fdx4y3
  | 4, 4, _, _ => fdx4y4
  | 4, k + 5, _, h => absurd h (by omega)
  | 5, 0, _, _ => fdx5y0
  | 5, 1, _, _ => fdx5y1
  | 5, 2, _, _ => fdx5y2
  | 5, 3, _, _ => fdx5y3
  | 5, 4, _, _ => fdx5y4
  | 5, 5, _, _ => fdx5y5
  | 5, k + 6, _, h => absurd h (by omega)
  | 6, 0, _, _ => fdx6y0
  | 6, 1, _, _ => fdx6y1
  | 6, 2, _, _ => fdx6y2
  | 6, 3, _, _ => fdx6y3
  | 6, 4, _, _ => fdx6y4
  | 6, 5, _, _ => fdx6y5
  | 6, 6, _, _ => fdx6y6
  | 6, k + 7, _, h => absurd h (by omega)
  | 7, 0, _, _ => fdx7y0
  | 7, 1, _, _ => fdx7y1
  | 7, 2, _, _ => fdx7y2
  | 7, 3, _, _ => fdx7y3
  | 7, 4, _, _ => fdx7y4
  | 7, 5, _, _ => fdx7y5
  | 7, 6, _, _ => fdx7y6
  | 7, 7, _, _ => fdx7y7
  | 7, k + 8, _, h => absurd h (by omega)
  | 8, 0, _, _ => fdx8y0
  | 8, 1, _, _ => fdx8y1
  | 8, 2, _, _ => fdx8y2
  | 8, 3, _, _ => fdx8y3
  | 8, 4, _, _ => fdx8y4
  | 8, 5, _, _ => fdx8y5
  | 8, 6, _, _ => fdx8y6
  | 8, 7, _, _ => fdx8y7
  | 8, 8, _, _ => fdx8y8
  | 8, k + 9, _, h => absurd h (by omega)
  | m + 9, k, h, _ => absurd h (by omega)
theorem fd1K_all : ∀ m k : Nat, m ≤ 8 → k < m → fd1K m k = true
  | 0, k, _, h => absurd h (by omega)
  | 1, 0, _, _ => fd1x1y0
  | 1, k + 1, _, h => absurd h (by omega)
  | 2, 0, _, _ => fd1x2y0
  | 2, 1, _, _ => fd1x2y1
  | 2, k + 2, _, h => absurd h (by omega)
  | 3, 0, _, _ => fd1x3y0
  | 3, 1, _, _ => fd1x3y1
  | 3, 2, _, _ => fd1x3y2
  | 3, k + 3, _, h => absurd h (by omega)
  | 4, 0, _, _ => fd1x4y0
  | 4, 1, _, _ => fd1x4y1
  | 4, 2, _, _ => fd1x4y2
  | 4, 3, _, _ => fd1x4y3
  | 4, k + 4, _, h => absurd h (by omega)
  | 5, 0, _, _ => fd1x5y0
  | 5, 1, _, _ => fd1x5y1
  | 5, 2, _, _ => fd1x5y2
  | 5, 3, _, _ => fd1x5y3
  | 5, 4, _, _ => fd1x5y4
  | 5, k + 5, _, h => absurd h (by omega)
  | 6, 0, _, _ => fd1x6y0
  | 6, 1, _, _ => fd1x6y1
  | 6, 2, _, _ => fd1x6y2
  | 6, 3, _, _ => fd1x6y3
  | 6, 4, _, _ => fd1x6y4
  | 6, 5, _, _ => fd1x6y5
  | 6, k + 6, _, h => absurd h (by omega)
  | 7, 0, _, _ => fd1x7y0
  | 7, 1, _, _ => fd1x7y1
  | 7, 2, _, _ => fd1x7y2
  | 7, 3, _, _ => fd1x7y3
  | 7, 4, _, _ => fd1x7y4
  | 7, 5, _, _ => fd1x7y5
  | 7, 6, _, _ => fd1x7y6
  | 7, k + 7, _, h => absurd h (by omega)
  | 8, 0, _, _ => fd1x8y0
  | 8, 1, _, _ => fd1x8y1
  | 8, 2, _, _ => fd1x8y2
  | 8, 3, _, _ => fd1x8y3
  | 8, 4, _, _ => fd1x8y4
  | 8, 5, _, _ => fd1x8y5
  | 8, 6, _, _ => fd1x8y6
  | 8, 7, _, _ => fd1x8y7
  | 8, k + 8, _, h => absurd h (by omega)
  | m + 9, k, h, _ => absurd h (by omega)
theorem mainF_all : ∀ m k : Nat, m ≤ 8 → k ≤ m → mainT m k false 0 = true
  | 0, 0, _, _ => mx0y0_f
  | 0, k + 1, _, h => absurd h (by omega)
  | 1, 0, _, _ => mx1y0_f
  | 1, 1, _, _ => mx1y1_f
  | 1, k + 2, _, h => absurd h (by omega)
  | 2, 0, _, _ => mx2y0_f
  | 2, 1, _, _ => mx2y1_f
  | 2, 2, _, _ => mx2y2_f
  | 2, k + 3, _, h => absurd h (by omega)
  | 3, 0, _, _ => mx3y0_f
  | 3, 1, _, _ => mx3y1_f
  | 3, 2, _, _ => mx3y2_f
  | 3, 3, _, _ => mx3y3_f
  | 3, k + 4, _, h => absurd h (by omega)
  | 4, 0, _, _ => mx4y0_f
  | 4, 1, _, _ => mx4y1_f
  | 4, 2, _, _ => mx4y2_f
  | 4, 3, _, _ => mx4y3_f
  | 4, 4, _, _ => mx4y4_f
  | 4, k + 5, _, h => absurd h (by omega)
  | 5, 0, _, _ => mx5y0_f
  | 5, 1, _, _ => mx5y1_f
  | 5, 2, _, _ => mx5y2_f
  | 5, 3, _, _ => mx5y3_f
  | 5, 4, _, _ => mx5y4_f
  | 5, 5, _, _ => mx5y5_f
  | 5, k + 6, _, h => absurd h (by omega)
  | 6, 0, _, _ => mx6y0_f
  | 6, 1, _, _ => mx6y1_f
  | 6, 2, _, _ => mx6y2_f
  | 6, 3, _, _ => mx6y3_f
  | 6, 4, _, _ => mx6y4_f
  | 6, 5, _, _ => mx6y5_f
  | 6, 6, _, _ => mx6y6_f
  | 6, k + 7, _, h => absurd h (by omega)
  | 7, 0, _, _ => mx7y0_f
  | 7, 1, _, _ => mx7y1_f
  | 7, 2, _, _ => mx7y2_f
  | 7, 3, _, _ => mx7y3_f
  | 7, 4, _, _ => mx7y4_f
  | 7, 5, _, _ => mx7y5_f
  | 7, 6, _, _ => mx7y6_f
  | 7, 7, _, _ => mx7y7_f
  | 7, k + 8, _, h => absurd h (by omega)
  | 8, 0, _, _ => mx8y0_f
  | 8, 1, _, _ => mx8y1_f
  | 8, 2, _, _ => mx8y2_f
  | 8, 3, _, _ => mx8y3_f
  | 8, 4, _, _ => mx8y4_f
  | 8, 5, _, _ => mx8y5_f
  | 8, 6, _, _ => mx8y6_f
  | 8, 7, _, _ => mx8y7_f
  | 8, 8, _, _ => mx8y8_f
  | 8, k + 9, _, h => absurd h (by omega)
  | m + 9, k, h, _ => absurd h (by omega)
theorem mainT_all : ∀ m k : Nat, m ≤ 8 → k ≤ m → mainT m k true 0 = true
  | 0, 0, _, _ => mx0y0_t
  | 0, k + 1, _, h => absurd h (by omega)
  | 1, 0, _, _ => mx1y0_t
  | 1, 1, _, _ => mx1y1_t
  | 1, k + 2, _, h => absurd h (by omega)
  | 2, 0, _, _ => mx2y0_t
  | 2, 1, _, _ => mx2y1_t
  | 2, 2, _, _ => mx2y2_t
  | 2, k + 3, _, h => absurd h (by omega)
  | 3, 0, _, _ => mx3y0_t
  | 3, 1, _, _ => mx3y1_t
  | 3, 2, _, _ => mx3y2_t
  | 3, 3, _, _ => mx3y3_t
  | 3, k + 4, _, h => absurd h (by omega)
  | 4, 0, _, _ => mx4y0_t
  | 4, 1, _, _ => mx4y1_t
  | 4, 2, _, _ => mx4y2_t
  | 4, 3, _, _ => mx4y3_t
  | 4, 4, _, _ => mx4y4_t
  | 4, k + 5, _, h => absurd h (by omega)
  | 5, 0, _, _ => mx5y0_t
  | 5, 1, _, _ => mx5y1_t
  | 5, 2, _, _ => mx5y2_t
  | 5, 3, _, _ => mx5y3_t
  | 5, 4, _, _ => mx5y4_t
  | 5, 5, _, _ => mx5y5_t
  | 5, k + 6, _, h => absurd h (by omega)
  | 6, 0, _, _ => mx6y0_t
  | 6, 1, _, _ => mx6y1_t
  | 6, 2, _, _ => mx6y2_t
  | 6, 3, _, _ => mx6y3_t
  | 6, 4, _, _ => mx6y4_t
  | 6, 5, _, _ => mx6y5_t
  | 6, 6, _, _ => mx6y6_t
  | 6, k + 7, _, h => absurd h (by omega)
  | 7, 0, _, _ => mx7y0_t
  | 7, 1, _, _ => mx7y1_t
  | 7, 2, _, _ => mx7y2_t
  | 7, 3, _, _ => mx7y3_t
  | 7, 4, _, _ => mx7y4_t
  | 7, 5, _, _ => mx7y5_t
  | 7, 6, _, _ => mx7y6_t
  | 7, 7, _, _ => mx7y7_t
  | 7, k + 8, _, h => absurd h (by omega)
  | 8, 0, _, _ => mx8y0_t
  | 8, 1, _, _ => mx8y1_t
  | 8, 2, _, _ => mx8y2_t
  | 8, 3, _, _ => mx8y3_t
  | 8, 4, _, _ => mx8y4_t
  | 8, 5, _, _ => mx8y5_t
  | 8, 6, _, _ => mx8y6_t
  | 8, 7, _, _ => mx8y7_t
  | 8, 8, _, _ => mx8y8_t
  | 8, k + 9, _, h => absurd h (by omega)
  | m + 9, k, h, _ => absurd h (by omega)
end X
end Go.Proofs.YtebfahobllghnaaGreatDoor
namespace Go.Proofs.YtebfahobllghnaaGreatDoor
namespace X
open Go.RowKit B
set_option maxRecDepth 1000000
theorem fn_top : Tryz.prog.funcs[3]? = some Tryz.f3 := by kernel_rfl
theorem join_top (t : TrigK) : Tryz.f3.body = some (mkXK cTop [t]).1.code := by kernel_rfl
theorem lps_top : ∃ l, lpsK cTop = cEs :: l := by
  unfold cEs
  cases h : lpsK cTop with
  | nil =>
    exfalso
    have : (lpsK cTop).length = 2 := by kernel_rfl
    rw [h] at this
    cases this
  | cons b l => exact ⟨l, rfl⟩
theorem mkXK_tr2 {P : Program} {ρ : Rho} : ∀ {c : Code} {l : List TrigK}, (∀ (i : Nat) (t : TrigK) (b : Code), l[i]? = some t → (lpsK c)[i]? = some b → KnOk P ρ b t) → trXK P ρ (mkXK c l).1 ∧ (mkXK c l).2 = l.drop (lpsK c).length := by
  intro c
  induction c with
  | seq c k ihc ihk =>
    intro l hl
    have h1 := ihc (l := l) fun i t b h1 h2 => hl i t b h1 (by
      have : i < (lpsK c).length := (List.getElem?_eq_some_iff.1 h2).1
      rw [show lpsK (.seq c k) = lpsK c ++ lpsK k from rfl, List.getElem?_append_left this]; exact h2)
    have h2 := ihk (l := (mkXK c l).2) fun i t b h2 h3 => hl ((lpsK c).length + i) t b (by rw [h1.2, List.getElem?_drop] at h2; exact h2) (by
      rw [show lpsK (.seq c k) = lpsK c ++ lpsK k from rfl, List.getElem?_append_right (by omega), Nat.add_sub_cancel_left]; exact h3)
    refine ⟨⟨h1.1, h2.1⟩, ?_⟩
    show (mkXK k (mkXK c l).2).2 = _
    rw [h2.2, h1.2, List.drop_drop, show lpsK (.seq c k) = lpsK c ++ lpsK k from rfl, List.length_append]
  | block b d ih =>
    intro l hl
    cases d with
    | loop body =>
      cases l with
      | nil => exact ⟨trivial, rfl⟩
      | cons t l => exact ⟨hl 0 t body rfl rfl, rfl⟩
    | _ => exact ⟨trivial, rfl⟩
  | _ => exact fun hl => ⟨trivial, rfl⟩
abbrev Good (vs : List Value) (w : World) : Prop := Calls Tryz.prog 3 vs.toArray w (fun e w' => e = .returned (.bool true) ∧ Ext none' w w')
theorem top_run {ρ : Rho} {args : List SV} {l : ML} {pc : PC} {g : SumF} (hl : ∀ t b, (t, b) ∈ l → isHb b = 2) (hg : CallY Tryz.prog ρ 3 g) (hs : Sat ρ pc) (hk : mkK l .lf (fun m0 => g args m0 3 pc fun v m _ _ => endW l v m) = true) {w : World} {θ : Th} {vs : List Value} (hd : dens ρ θ args = some vs) (hM : MemOk ρ θ (mkU l .lf).get w) (hθ : ∀ t, 3 ≤ t → θ t = none) : Good vs w := by
  obtain ⟨hk, hT⟩ := mkK_told hk
  obtain ⟨r, hr, h1, _⟩ := hg args (mkU l .lf) 3 pc hs (fun r => endW l r.v r.m) hk
  refine calls_mono (hr.run w θ vs hd hM fun t h _ => hθ t h) fun e w' ⟨v, θ', q1, q2, q3⟩ => ?_
  simp only [endW, Bool.and_eq_true] at h1
  obtain ⟨h1, h2⟩ := h1
  unfold isTr at h1
  split at h1
  · rename_i hv
    rw [hv] at q3
    cases q3
    refine ⟨q1, q2.ext.mono fun g _ ⟨t, x, e1, f⟩ => ?_⟩
    cases hb : (mkU l .lf).get t with
    | none => rw [hb] at f; exact f
    | some b =>
      rw [hb] at f
      have hk2 := hl t b (hT t b hb)
      cases b with
      | cv cs => exact absurd f.1 (by decide)
      | cq n b => exact absurd f.1 (by decide)
      | _ => simp [isHb] at hk2
  · cases h1
def rawL (xs : List (Int × Int)) (j : Nat) : Int := if j % 2 = 0 then (xs.getD (j / 2) (0, 0)).1 else (xs.getD (j / 2) (0, 0)).2
def thA (p0 p1 p2 : Nat × Nat) : Th := fun t => if t = 0 then some p0 else if t = 1 then some p1 else if t = 2 then some p2 else none
theorem span_row {xs : List (Int × Int)} {j : Nat} (hj : j < 2 * xs.length) : (SpanE.row xs)[j]? = some (.int .i64 (rawL xs j)) := by
  have hx : xs[j / 2]? = some (xs.getD (j / 2) (0, 0)) := by
    rw [List.getD_eq_getElem?_getD, List.getElem?_eq_getElem (by omega)]; rfl
  have hs : SpanE.sz = 2 := rfl
  have e := SpanE.row_get (j := j % 2) hx (by rw [hs]; omega)
  rw [hs, show j / 2 * 2 + j % 2 = j by omega] at e
  rw [e]
  unfold rawL
  rcases (show j % 2 = 0 ∨ j % 2 = 1 by omega) with h | h <;> rw [h] <;> rfl
theorem str_row {zs : List ByteArray} {j : Nat} (hj : j < zs.length) : (StrE.row zs)[j]? = some (.string (zs.getD j default)) := by
  have hx : zs[j]? = some (zs.getD j default) := by
    rw [List.getD_eq_getElem?_getD, List.getElem?_eq_getElem hj]; rfl
  have hs : StrE.sz = 1 := rfl
  have e := StrE.row_get (j := 0) hx (by rw [hs]; omega)
  rw [hs, Nat.mul_one, Nat.add_zero] at e
  rw [e]; rfl
theorem row_th {α : Type} {E : Enc α} {w : World} {v : Value} {xs : List α} (hv : SlT E w v xs) : ∃ p : Nat × Nat, ∀ (ρ : Rho) (θ : Th) (t n b : Nat), θ t = some p → ρ.v n = xs.length →
    den ρ θ (.sv t (.mk 0 [(2 * n, 1)])) = some v ∧ (xs.length = 0 → den ρ θ (.sv t (.mk 0 [])) = some v) ∧ (xs.length ≠ 0 → 0 < cqN ρ n → (∀ j, j < cqN ρ n → (E.row xs)[j]? = some (cqV ρ n b j)) → HoldsB ρ θ w t (.cq n b)) := by
  have ev : ∀ {ρ : Rho} {n : Nat}, ρ.v n = xs.length → (Lin.mk 0 [(2 * n, 1)]).den ρ = xs.length := fun {ρ n} hn => (lv_v n).trans hn
  have e0 : ∀ {ρ : Rho}, (Lin.mk 0 []).den ρ = 0 := const_den
  rcases hv.sl with ⟨rfl, h0⟩ | ⟨p, cap, rfl, hcap, hmax⟩
  · refine ⟨(0, 0), fun ρ θ t n b ht hn => ⟨?_, fun _ => ?_, fun hne => absurd h0 hne⟩⟩
    · have : (Lin.mk 0 [(2 * n, 1)]).den ρ = 0 := by rw [ev hn, h0]; rfl
      simp only [den, ht, Option.bind_some, this, if_true]
    · simp only [den, ht, Option.bind_some, e0, if_true]
  · have key : ∃ o : Array Value × Nat × Nat × Nat, ∀ u, (E.row xs)[0]? = some u → w.heap[p.block]? = some (.cells o.1 o.2.1 o.2.2) := by
      cases hr : (E.row xs)[0]? with
      | none => exact ⟨(#[], 0, 0, 0), fun u h => by cases h⟩
      | some u =>
        have hc := hv.cell 0 u hr
        unfold World.cell? at hc
        rw [show ((B.ptrOf (Value.slice (some p) xs.length cap)).add 0).block = p.block from addr_block p 0] at hc
        split at hc
        · rename_i arr ty fr hh
          exact ⟨(arr, ty, fr), fun _ _ => hh⟩
        · cases hc
    obtain ⟨o, ho⟩ := key
    obtain ⟨c, c1, c2, c3⟩ := adrC_all p cap o
    refine ⟨(p.block, c + 1), fun ρ θ t n b ht hn => ⟨?_, fun hz => ?_, fun hne h0 hr => ?_⟩⟩
    · simp only [den, ht, Option.bind_some, ev hn, c1, c2]
      rw [if_pos (by omega), Int.toNat_natCast]
    · simp only [den, ht, Option.bind_some, e0, c1, c2, hz]
      rfl
    · have hr0 := hr 0 h0
      refine ⟨p.block, c + 1, ht, ⟨⟨World.block_lt_of_cell? w _ (hv.cell 0 _ hr0), by rw [ho _ hr0, Nat.add_sub_cancel, c3]⟩, .inr ⟨?_, ?_⟩⟩, fun j hj => ?_⟩
      · rw [hn, Nat.add_sub_cancel, c2]; omega
      · rw [Nat.add_sub_cancel, c2]; exact hmax
      · rw [Nat.add_sub_cancel, c1]
        exact hv.cell j _ (hr j hj)
def eG (G T : Nat) : Nat := match G, T with
  | 0, 0 => 3
  | 0, _ + 1 => 1
  | _ + 1, 0 => 2
  | _ + 1, _ + 1 => 0
theorem mem_of {ρ : Rho} {θ : Th} {w : World} {l : ML} (hk : mkK l .lf (fun _ => true) = true) (hl : ∀ t b, (t, b) ∈ l → isHb b = 2) (h : ∀ t b, (t, b) ∈ l → HoldsB ρ θ w t b) : MemOk ρ θ (mkU l .lf).get w := by
  have hT := (mkK_told hk).2
  refine ⟨fun t b hb => h t b (hT t b hb), fun s t g _ ⟨x, e, f⟩ => ?_⟩
  exfalso
  cases hb : (mkU l .lf).get t with
  | none => rw [hb] at f; exact f
  | some b =>
    rw [hb] at f
    have hk2 := hl t b (hT t b hb)
    cases b with
    | cv cs => exact absurd f.1 (by decide)
    | cq n b => exact absurd f.1 (by decide)
    | _ => simp [isHb] at hk2
theorem mainRun {m k e : Nat} {b : Bool} (hm : m ≤ 8) (hk : k ≤ m) (he : e < 4) (h0 : e ≠ 0 → m = 0) : mainT m k b e = true := by
  have : e = 0 ∨ e = 1 ∨ e = 2 ∨ e = 3 := by omega
  rcases this with rfl | rfl | rfl | rfl
  · cases b with
    | false => exact mainF_all m k hm hk
    | true => exact mainT_all m k hm hk
  · have h := h0 (by decide); subst h; have : k = 0 := by omega
    subst this; cases b with
    | false => exact m0g1_f
    | true => exact m0g1_t
  · have h := h0 (by decide); subst h; have : k = 0 := by omega
    subst this; cases b with
    | false => exact m0g2_f
    | true => exact m0g2_t
  · have h := h0 (by decide); subst h; have : k = 0 := by omega
    subst this; cases b with
    | false => exact m0g3_f
    | true => exact m0g3_t
def txD (zs : List ByteArray) (j : Nat) : List UInt8 := (zs.getD j default).data.toList
theorem txL_eq (zs : List ByteArray) : txL (txD zs) zs.length = zs := by
  apply List.ext_getElem?
  intro j
  unfold txL
  rw [List.getElem?_map]
  rcases Nat.lt_or_ge j zs.length with h | h
  · rw [List.getElem?_range h, List.getElem?_eq_getElem h]
    show some (bstr (zs.getD j default).data.toList) = _
    rw [List.getD_eq_getElem?_getD, List.getElem?_eq_getElem h]
    simp [bstr]
  · rw [List.getElem?_eq_none (by rw [List.length_range]; exact h), List.getElem?_eq_none h]; rfl
theorem long_sum {tx : Nat → List UInt8} : ∀ (n i : Nat) (k : Int), 0 ≤ k → longL k ((List.range' i n).map fun j => bstr (tx j)) = false → (sumN (fun j => (tx j).length) i n : Int) ≤ k
  | 0, i, k, hk, _ => hk
  | n + 1, i, k, hk, h => by
    rw [List.range'_succ, List.map_cons] at h
    simp only [longL, Bool.or_eq_false_iff, decide_eq_false_iff_not] at h
    obtain ⟨h1, h2⟩ := h
    rw [bstr_size] at h1 h2
    have := long_sum n (i + 1) _ (by omega) h2
    show (((tx i).length + sumN (fun j => (tx j).length) (i + 1) n : Nat) : Int) ≤ k
    omega
theorem main_c {d : Ag} (h : d.Ok) {w : World} {v0 v1 v2 : Value} {xs ys : List (Int × Int)} {zs : List ByteArray} (h0 : SlT SpanE w v0 xs) (h1 : SlT SpanE w v1 ys) (h2 : SlT StrE w v2 zs) (dn : d.n = xs.length) (dr : d.raw = rawL xs) (dG : d.G = ys.length) (dg : d.gp = rawL ys) (dT : d.T = zs.length) (dx : d.tx = txD zs) (hl : longL 80 zs = false) : Good [.string (bstr d.W), v0, v1, v2, .int .i64 d.ty] w := by
  obtain ⟨Q, pQ, sQ, kP⟩ := plain_ex d.W d.raw d.n h.W h.n
  obtain ⟨q, q0, kS⟩ := Ag.sets h pQ sQ
  have hm8 := Ag.m8 h
  have hmG : d.m ≤ min d.G d.T := edsL_len _ _ _
  have hlow := lowF_ok (x := d.ty) (n := (d.m : Int) + 1) (by omega)
  obtain ⟨k, hk⟩ : ∃ k : Nat, lowF d.ty (d.m + 1) = k := ⟨(lowF d.ty (d.m + 1)).toNat, by omega⟩
  have hkm : k ≤ d.m := by omega
  have R := Ag.topR (q := q) h
  have E := Ag.edR (q := q) h
  have he4 : eG d.G d.T < 4 := by unfold eG; split <;> omega
  have he0 : eG d.G d.T ≠ 0 → d.m = 0 := fun hne => by
    unfold eG at hne
    split at hne
    · rename_i a b; rw [a] at hmG; omega
    · rename_i a b; rw [a] at hmG; omega
    · rename_i a b; rw [b] at hmG; omega
    · exact absurd rfl hne
  have hrun := mainRun (b := z0B d.n) hm8 hkm he4 he0
  -- what is told of calls
  have hPl : KnownOk Tryz.prog 6 (kPlM d.m (nsX (z0B d.n)) (nsY (z0B d.n))) (d.rho q) := kP _ d.m (Ag.sg_W h) ((Ag.s_q (d := d) (q := q) (j := 0) (by omega)).trans q0) (by
      have r := R.row d.m (Nat.le_refl _)
      have : d.x d.m = rowP d.W d.raw d.n := by unfold Ag.x; rw [Nat.sub_self]; rfl
      rw [this] at r
      exact r) rfl fun j hj => Ag.v_raw (by have := h.n; omega)
  have hsm : SumOk Tryz.prog (d.rho q) (smT d.m k (nsX (z0B d.n)) (nsY (z0B d.n))) :=
    withF_ok (withF_ok (withF_ok (withF_ok (withF_ok (withF_ok (withF_ok (withF_ok (withF_ok (withF_ok (withF_ok (smZ_okN _ _) (lselsT_ok R)) (equalT_ok R)) (cloneT_ok R)) sSz_ok) sTx_ok) (fdT_ok R (fdK_all _ _ hm8 hkm) fun i hi => fd1K_all _ _ hm8 hi)) (setT_ok kS)) (cutW_ok hPl)) (byT_ok rfl hk hm8)) (longT_ok (tx := d.tx) (T := d.T) rfl (fun j => Ag.s_raw) (by rw [dx, dT, txL_eq]; exact hl))) awT_ok
  have hLoop : ∀ e, e = eG d.G d.T → LoopOk Tryz.prog (d.rho q) cEs (kEsL d.m (gtX e).1 (gtX e).2.1 (gtX e).2.2) := fun e he => by
    have : e = 0 ∨ e ≠ 0 := by omega
    rcases this with e0 | e0
    · subst e0
      exact esLoop_ok E (by omega) (Ag.edF h) rfl hm8
    · have := he0 (by rw [← he]; exact e0)
      rw [this]
      refine esLoop_n E (by omega) fun e2 => ?_
      rw [e2] at he
      unfold eG at he
      split at he <;> omega
  have htr : ∀ e, e = eG d.G d.T → trXK Tryz.prog (d.rho q) (mkXK cTop [esTr d.m (gtX e).1 (gtX e).2.1 (gtX e).2.2]).1 := fun e he => (mkXK_tr2 fun i t b h1 h2 => by
    obtain ⟨l, hl⟩ := lps_top
    cases i with
    | succ i => cases h1
    | zero =>
      rw [hl] at h2
      cases h1
      cases h2
      intro s mm nx pc rs kk hh
      unfold esTr at hh
      split at hh
      · cases hh
        refine ⟨rules_ok ⟨fun _ => ?_, trivial⟩ trivial, hLoop e he⟩
        rw [d1]
        exact (Ag.sg_W h).symm
      · cases hh).1
  obtain ⟨p0, t0⟩ := row_th h0
  obtain ⟨p1, t1⟩ := row_th h1
  obtain ⟨p2, t2⟩ := row_th h2
  have a0 := t0 (d.rho q) (thA p0 p1 p2) 0 2999 2000 rfl (by rw [← dn]; rfl)
  have a1 := t1 (d.rho q) (thA p0 p1 p2) 1 2998 2100 rfl (by rw [← dG]; rfl)
  have a2 := t2 (d.rho q) (thA p0 p1 p2) 2 10000 10100 rfl (by rw [← dT]; rfl)
  have c0 : cqN (d.rho q) 2999 = 2 * xs.length := by unfold cqN; rw [if_pos (by omega), ← dn]; rfl
  have c1 : cqN (d.rho q) 2998 = 2 * ys.length := by unfold cqN; rw [if_pos (by omega), ← dG]; rfl
  have c2 : cqN (d.rho q) 10000 = zs.length := by unfold cqN; rw [if_neg (by omega), ← dT]; rfl
  have b0 : xs.length ≠ 0 → HoldsB (d.rho q) (thA p0 p1 p2) w 0 nsK := fun hne => a0.2.2 hne (by omega) fun j hj => by
    rw [c0] at hj
    rw [span_row hj]
    unfold cqV
    rw [if_pos (by omega), Ag.v_raw (by have := h.n; omega), dr]
  have b1 : ys.length ≠ 0 → HoldsB (d.rho q) (thA p0 p1 p2) w 1 gpK := fun hne => a1.2.2 hne (by omega) fun j hj => by
    rw [c1] at hj
    rw [span_row hj]
    unfold cqV
    rw [if_pos (by omega), Ag.v_gp (by have := h.G; omega), dg]
  have b2 : zs.length ≠ 0 → HoldsB (d.rho q) (thA p0 p1 p2) w 2 txK := fun hne => a2.2.2 hne (by omega) fun j hj => by
    rw [c2] at hj
    rw [str_row hj]
    unfold cqV
    rw [if_neg (by omega), Ag.s_raw, dx]
    unfold txD
    simp [bstr]
  have n0 : ∀ b, z0B d.n = b → den (d.rho q) (thA p0 p1 p2) (nsX b) = some v0 ∧ (∀ t c, (t, c) ∈ nsY b → isHb c = 2 ∧ HoldsB (d.rho q) (thA p0 p1 p2) w t c) := fun b hb => by
    unfold z0B at hb
    cases b with
    | true =>
      have := Nat.eq_of_beq_eq_true hb
      exact ⟨a0.2.1 (by omega), fun t c hc => by cases hc⟩
    | false =>
      have : d.n ≠ 0 := Nat.ne_of_beq_eq_false hb
      refine ⟨a0.1, fun t c hc => ?_⟩
      simp only [nsY, List.mem_cons, List.not_mem_nil, or_false, Prod.mk.injEq] at hc
      obtain ⟨rfl, rfl⟩ := hc
      exact ⟨rfl, b0 (by omega)⟩
  have n1 : ∀ e, eG d.G d.T = e → den (d.rho q) (thA p0 p1 p2) (gtX e).1 = some v1 ∧ den (d.rho q) (thA p0 p1 p2) (gtX e).2.1 = some v2 ∧ (∀ t c, (t, c) ∈ (gtX e).2.2 → isHb c = 2 ∧ HoldsB (d.rho q) (thA p0 p1 p2) w t c) := fun e he => by
    unfold eG at he
    split at he
    · rename_i g1 g2
      subst he
      exact ⟨a1.2.1 (by omega), a2.2.1 (by omega), fun t c hc => by cases hc⟩
    · rename_i T g1 g2
      subst he
      refine ⟨a1.2.1 (by omega), a2.1, fun t c hc => ?_⟩
      simp only [gtX, List.mem_cons, List.not_mem_nil, or_false, Prod.mk.injEq] at hc
      obtain ⟨rfl, rfl⟩ := hc
      exact ⟨rfl, b2 (by omega)⟩
    · rename_i G g1 g2
      subst he
      refine ⟨a1.1, a2.2.1 (by omega), fun t c hc => ?_⟩
      simp only [gtX, List.mem_cons, List.not_mem_nil, or_false, Prod.mk.injEq] at hc
      obtain ⟨rfl, rfl⟩ := hc
      exact ⟨rfl, b1 (by omega)⟩
    · rename_i G T g1 g2
      subst he
      refine ⟨a1.1, a2.1, fun t c hc => ?_⟩
      simp only [gtX, List.mem_cons, List.not_mem_nil, or_false, Prod.mk.injEq] at hc
      rcases hc with ⟨rfl, rfl⟩ | ⟨rfl, rfl⟩
      · exact ⟨rfl, b1 (by omega)⟩
      · exact ⟨rfl, b2 (by omega)⟩
  obtain ⟨x0, y0⟩ := n0 _ rfl
  obtain ⟨x1, x2, y1⟩ := n1 _ rfl
  have hall : ∀ t c, (t, c) ∈ appL (nsY (z0B d.n)) (gtX (eG d.G d.T)).2.2 → isHb c = 2 ∧ HoldsB (d.rho q) (thA p0 p1 p2) w t c := fun t c hc => by
    rcases mem_appL.1 hc with hc | hc
    · exact y0 t c hc
    · exact y1 t c hc
  have hpc : Sat (d.rho q) (pcT d.m) := sat_appL.2 ⟨sat_cons (by
      show 0 ≤ (Lin.mk 6 [(2 * 2999, -1)]).den (d.rho q)
      simp only [Lin.den, dts, Rho.at_v]
      have : (d.rho q).v 2999 = d.n := rfl
      have := h.n
      omega) (sat_cons (by
      show 0 ≤ (Lin.mk 8 [(2 * 2998, -1)]).den (d.rho q)
      simp only [Lin.den, dts, Rho.at_v]
      have : (d.rho q).v 2998 = d.G := rfl
      have := h.G
      omega) sat_nil), R.pc⟩
  refine top_run (g := fun args m nx pc K => callK Tryz.prog (smT d.m k (nsX (z0B d.n)) (nsY (z0B d.n))) 1000000 50 3 (mkXK cTop [esTr d.m (gtX (eG d.G d.T)).1 (gtX (eG d.G d.T)).2.1 (gtX (eG d.G d.T)).2.2]).1 args m nx pc K) (args := [.s (sgW d.m), nsX (z0B d.n), (gtX (eG d.G d.T)).1, (gtX (eG d.G d.T)).2.1, byW]) (l := appL (nsY (z0B d.n)) (gtX (eG d.G d.T)).2.2) (θ := thA p0 p1 p2) (fun t c hc => (hall t c hc).1) (fun args m nx pc hs => callK_yl mixJ hsm fn_top (join_top _) (htr _ rfl) hs) hpc hrun ?_ (mem_of ?_ (fun t c hc => (hall t c hc).1) fun t c hc => (hall t c hc).2) fun t ht => by unfold thA; rw [if_neg (by omega), if_neg (by omega), if_neg (by omega)]
  · have eW : den (d.rho q) (thA p0 p1 p2) (.s (sgW d.m)) = some (.string (bstr d.W)) := by simp only [den, Ag.sg_W h]
    have eB : den (d.rho q) (thA p0 p1 p2) byW = some (.int .i64 d.ty) := by
      show some (Value.int .i64 ((lv (2 * 2990)).den (d.rho q))) = _
      rw [lv_v]; rfl
    simp only [dens, eW, x0, x1, x2, eB, Option.bind_some, Option.map_some]
  · cases z0B d.n <;> (unfold eG; split <;> rfl)
def rhoX (W : List UInt8) (n G T : Nat) (tx : Nat → List UInt8) (ty : Int) : Rho := ⟨fun j => if j = 2999 then (n : Int) else if j = 2998 then (G : Int) else if j = 10000 then (T : Int) else if j = 2990 then ty else 0, fun i => if i = 39 then W else tx (i - 10100)⟩
theorem longY_ok {ρ : Rho} {T : Nat} {tx : Nat → List UInt8} (hT : ρ.v 10000 = T) (ht : ∀ j, ρ.s (10100 + j) = tx j) (hl : longL 80 (txL tx T) = true) : CallY Tryz.prog ρ 4 longY := fun args m nx pc hs => by
  unfold longY
  split
  · split
    · rename_i hm
      refine Yl.pure (⟨.b true, m, nx, pc⟩ : O4) (CallR.rd enterLong hs fun θ w vs hM hvs => ?_)
      simp only [dens, Option.bind_eq_some_iff, Option.map_eq_some_iff] at hvs
      obtain ⟨a, ha, b, ⟨c, hc, d, hd, rfl⟩, rfl⟩ := hvs
      cases ha
      cases hd
      have := long_c 80 c (txL tx T) w (tx_sl hT ht hM hm hc) (by omega)
      rw [hl] at this
      exact ⟨_, rfl, this⟩
    · exact Yl.no
  · exact Yl.no
theorem topEdits_c (W : List UInt8) (ty : Int) {w : World} {v0 v1 v2 : Value} {xs ys : List (Int × Int)} {zs : List ByteArray} (h0 : SlT SpanE w v0 xs) (h1 : SlT SpanE w v1 ys) (h2 : SlT StrE w v2 zs) : Good [.string (bstr W), v0, v1, v2, .int .i64 ty] w := by
  obtain ⟨p0, t0⟩ := row_th h0
  obtain ⟨p1, t1⟩ := row_th h1
  obtain ⟨p2, t2⟩ := row_th h2
  let ρ : Rho := rhoX W xs.length ys.length zs.length (txD zs) ty
  have sr : ∀ j, ρ.s (10100 + j) = txD zs j := fun j => by
    show (if 10100 + j = 39 then W else txD zs (10100 + j - 10100)) = _
    rw [if_neg (by omega), show 10100 + j - 10100 = j by omega]
  have hθ : ∀ t, 3 ≤ t → thA p0 p1 p2 t = none := fun t ht => by unfold thA; rw [if_neg (by omega), if_neg (by omega), if_neg (by omega)]
  have a0 := t0 ρ (thA p0 p1 p2) 0 2999 2000 rfl rfl
  have a1 := t1 ρ (thA p0 p1 p2) 1 2998 2100 rfl rfl
  have a2 := t2 ρ (thA p0 p1 p2) 2 10000 10100 rfl rfl
  have lW : (lenS [.a 39]).den ρ = W.length := by rw [lenA]; rfl
  have ln : (lv 5998).den ρ = xs.length := by rw [show 5998 = 2 * 2999 from rfl, lv_v]; rfl
  have lG : (lv 5996).den ρ = ys.length := by rw [show 5996 = 2 * 2998 from rfl, lv_v]; rfl
  have hd : dens ρ (thA p0 p1 p2) argsL = some [.string (bstr W), v0, v1, v2, .int .i64 ty] := by
    have e1 : den ρ (thA p0 p1 p2) nsW = some v0 := a0.1
    have e2 : den ρ (thA p0 p1 p2) gpW = some v1 := a1.1
    have e3 : den ρ (thA p0 p1 p2) txW = some v2 := a2.1
    have e4 : den ρ (thA p0 p1 p2) byW = some (.int .i64 ty) := by
      show some (Value.int .i64 ((lv (2 * 2990)).den ρ)) = _
      rw [lv_v]; rfl
    have e0 : den ρ (thA p0 p1 p2) (.s [.a 39]) = some (.string (bstr W)) := by simp only [den, d1]; rfl
    simp only [argsL, dens, e0, e1, e2, e3, e4, Option.bind_some, Option.map_some]
  have long : ∀ {p : PC}, lgK p = true → Sat ρ p → Good [.string (bstr W), v0, v1, v2, .int .i64 ty] w := fun {p} hk hs =>
    top_run (l := []) (fun t b h => by cases h) (go_c (sm := smA0) (withF_ok (smZ_okN _ _) awT_ok) _) hs hk hd memOk_lf hθ
  by_cases hW : W.length ≤ 60
  · by_cases hn : xs.length ≤ 6
    · by_cases hG : ys.length ≤ 8
      · cases hl : longL 80 zs with
        | false =>
          have hs : sumN (fun i => (txD zs i).length) 0 zs.length ≤ 80 := by
            have := long_sum (tx := txD zs) zs.length 0 80 (by omega) (by
              rw [← List.range_eq_range']
              show longL 80 (txL (txD zs) zs.length) = false
              rw [txL_eq]; exact hl)
            omega
          exact main_c (d := ⟨W, xs.length, rawL xs, ys.length, rawL ys, zs.length, txD zs, ty⟩) ⟨hW, hn, hG, hs⟩ h0 h1 h2 rfl rfl rfl rfl rfl rfl hl
        | true =>
          have hne : zs.length ≠ 0 := fun e => by
            rw [List.length_eq_zero_iff.1 e] at hl
            cases hl
          have c2 : cqN ρ 10000 = zs.length := by unfold cqN; rw [if_neg (by omega)]; rfl
          have b2 : HoldsB ρ (thA p0 p1 p2) w 2 txK := a2.2.2 hne (by omega) fun j hj => by
            rw [c2] at hj
            rw [str_row hj]
            unfold cqV
            rw [if_neg (by omega), sr]
            unfold txD
            simp [bstr]
          have hall : ∀ t c, (t, c) ∈ [(2, txK)] → isHb c = 2 ∧ HoldsB ρ (thA p0 p1 p2) w t c := fun t c hc => by
            simp only [List.mem_cons, List.not_mem_nil, or_false, Prod.mk.injEq] at hc
            obtain ⟨rfl, rfl⟩ := hc
            exact ⟨rfl, b2⟩
          refine top_run (l := [(2, txK)]) (fun t b h => (hall t b h).1) (go_c (sm := smAw) (withF_ok (withF_ok (smZ_okN _ _) (longY_ok (T := zs.length) (tx := txD zs) rfl sr (by rw [txL_eq]; exact hl))) awT_ok) _) (sat_cons ?_ (sat_cons ?_ (sat_cons ?_ sat_nil))) lg_d hd (mem_of rfl (fun t b h => (hall t b h).1) fun t b h => (hall t b h).2) hθ
          · rw [le'_den, lW]; omega
          · rw [le'_den, ln]; omega
          · rw [le'_den, lG]; omega
      · refine long lg_c (sat_cons ?_ (sat_cons ?_ (sat_cons ?_ sat_nil)))
        · rw [le'_den, lW]; omega
        · rw [le'_den, ln]; omega
        · rw [ge_den, const_den, lG]; omega
    · refine long lg_b (sat_cons ?_ (sat_cons ?_ sat_nil))
      · rw [le'_den, lW]; omega
      · rw [ge_den, const_den, ln]; omega
  · refine long lg_a (sat_cons ?_ sat_nil)
    rw [ge_den, const_den, lW]; omega
end X
end Go.Proofs.YtebfahobllghnaaGreatDoor
