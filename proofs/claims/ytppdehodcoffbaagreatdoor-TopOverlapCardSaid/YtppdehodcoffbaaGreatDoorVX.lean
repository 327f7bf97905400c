/-
  A rule for loops: a round from a state told by unknowns comes back to that state, of other unknowns. Over any program.
-/
import Derived.Test.YtppdehodcoffbaaGreatDoorVW
set_option linter.unusedSimpArgs false
set_option linter.unusedVariables false
namespace Go.Proofs.YtppdehodcoffbaaGreatDoor
namespace X
open Go.RowKit B

def findL : List (Nat × Lin) → Nat → Option Lin
  | [], _ => none
  | (j, e) :: l, i => match Nat.beq j i with
    | true => some e
    | false => findL l i
def lookL (σ : List (Nat × Lin)) (i : Nat) : Lin := match Nat.beq (Nat.mod i 2) 0 with
  | true => match findL σ i with
    | some e => e
    | none => .mk 0 [(i, 1)]
  | false => .mk 0 [(i, 1)]
def substT (σ : List (Nat × Lin)) : List (Nat × Int) → Lin
  | [] => .mk 0 []
  | (i, a) :: l => ((lookL σ i).mul a).add (substT σ l)
def substL (σ : List (Nat × Lin)) : Lin → Lin
  | .mk c l => (Lin.mk c []).add (substT σ l)
def plainT : List (Nat × Int) → Bool
  | [] => true
  | (i, _) :: l => !(Nat.beq (Nat.mod i 4) 3) && plainT l
def plainL : Lin → Bool
  | .mk _ l => plainT l
def updR (ρ : Rho) (σ : List (Nat × Lin)) : Rho := ⟨fun j => match findL σ (2 * j) with | some e => e.den ρ | none => ρ.v j, ρ.s⟩
theorem lookL_den {ρ : Rho} {σ : List (Nat × Lin)} {i : Nat} (h : i % 4 ≠ 3) : (lookL σ i).den ρ = (updR ρ σ).at i := by
  unfold lookL
  split
  · rename_i h2
    have h2 : i % 2 = 0 := Nat.eq_of_beq_eq_true h2
    obtain ⟨j, rfl⟩ : ∃ j, i = 2 * j := ⟨i / 2, by omega⟩
    rw [Rho.at_v]
    simp only [updR]
    split
    · rfl
    · simp [Lin.den, dts, Rho.at_v]
  · rename_i h2
    have h2 : i % 2 ≠ 0 := Nat.ne_of_beq_eq_false h2
    obtain ⟨j, rfl⟩ : ∃ j, i = 4 * j + 1 := ⟨i / 4, by omega⟩
    simp [Lin.den, dts, Rho.at_l, updR]
theorem substT_den {ρ : Rho} {σ : List (Nat × Lin)} : ∀ {l : List (Nat × Int)}, plainT l = true → (substT σ l).den ρ = dts (updR ρ σ) l
  | [], _ => by simp [substT, Lin.den, dts]
  | (i, a) :: l, h => by
    simp only [plainT, Bool.and_eq_true, Bool.not_eq_true'] at h
    have h1 : i % 4 ≠ 3 := Nat.ne_of_beq_eq_false h.1
    rw [substT, add_den, mul_den, lookL_den h1, substT_den h.2, dts]
theorem substL_den {ρ : Rho} {σ : List (Nat × Lin)} {e : Lin} (h : plainL e = true) : (substL σ e).den ρ = e.den (updR ρ σ) := by
  cases e with
  | mk c l =>
    rw [substL, add_den, substT_den h, const_den]
    rfl

/-! ### Values told anew -/
def capEq : Cap → Cap → Bool
  | .k a, .k b => Nat.beq a b
  | .q a, .q b => Nat.beq a b
  | _, _ => false
theorem capEq_ok {a b : Cap} (h : capEq a b = true) : a = b := by
  cases a <;> cases b <;> simp [capEq] at h <;> rw [h]
mutual
def backV (σ : List (Nat × Lin)) (lo : Nat) : SV → SV → Bool
  | .i k p, .i j q => ikEq k j && eqI p q
  | .x k e, .x j e' => ikEq k j && plainL e && eqLin (substL σ e) e'
  | .x k e, .i j n => ikEq k j && plainL e && eqLin (substL σ e) (.mk n [])
  | .b a, .b b => a == b
  | .s a, .s b => eqStr a b
  | .p t i, .p u j => Nat.blt t lo && Nat.beq t u && Nat.beq i j
  | .np, .np => true
  | .sl t o n c, .sl t' o' n' c' => Nat.blt t lo && Nat.beq t t' && Nat.beq o o' && Nat.beq n n' && capEq c c'
  | .sb t l, .sb t' l' => Nat.blt t lo && Nat.beq t t' && eqStr l l'
  | .ns, .ns => true
  | .ag l, .ag m => backVs σ lo l m
  | .tu l, .tu m => backVs σ lo l m
  | .fn f a b, .fn g c d => Nat.beq f g && backVs σ lo a c && backVs σ lo b d
  | .nf, .nf => true
  | .ni, .ni => true
  | .nm, .nm => true
  | .mp t, .mp u => Nat.blt t lo && Nat.beq t u
  | .un, .un => true
  | _, _ => false
def backVs (σ : List (Nat × Lin)) (lo : Nat) : List SV → List SV → Bool
  | [], [] => true
  | a :: l, b :: m => backV σ lo a b && backVs σ lo l m
  | _, _ => false
end
def backEs (σ : List (Nat × Lin)) (lo : Nat) : List (SV × SV × Nat) → List (SV × SV × Nat) → Bool
  | [], [] => true
  | (a, b, n) :: l, (c, d, k) :: m => backV σ lo a c && backV σ lo b d && Nat.beq n k && backEs σ lo l m
  | _, _ => false
def backB (σ : List (Nat × Lin)) (lo : Nat) : Blk → Blk → Bool
  | .ce t a x, .ce u b y => Nat.beq t u && backVs σ lo a b && (x == y)
  | .bt t a, .bt u b => Nat.beq t u && eqStr a b
  | .mp a c, .mp b d => backEs σ lo a b && Nat.beq c d
  | _, _ => false
def allT {α : Type} (p : Nat → α → Bool) : Tr α → (Nat → Nat) → Bool
  | .lf, _ => true
  | .nd l v r, g => (match v with | some x => p (g 0) x | none => true) && allT p l (fun k => g (2 * k + 1)) && allT p r (fun k => g (2 * k + 2))
theorem allT_ok {α : Type} {p : Nat → α → Bool} : ∀ {t : Tr α} {g : Nat → Nat}, allT p t g = true → ∀ j x, t.get j = some x → p (g j) x = true
  | .lf, g, _, j, x, h => by simp [Tr.get] at h
  | .nd l v r, g, hp, j, x, h => by
    simp only [allT, Bool.and_eq_true] at hp
    obtain ⟨⟨h1, h2⟩, h3⟩ := hp
    cases j with
    | zero =>
      simp only [Tr.get] at h
      subst h; exact h1
    | succ k =>
      simp only [Tr.get] at h
      split at h
      · rename_i hk
        have hk : k % 2 = 0 := Nat.eq_of_beq_eq_true hk
        have := allT_ok h2 _ x h
        rwa [show 2 * Nat.div k 2 + 1 = k + 1 by show 2 * (k / 2) + 1 = k + 1; omega] at this
      · rename_i hk
        have hk : k % 2 ≠ 0 := Nat.ne_of_beq_eq_false hk
        have := allT_ok h3 _ x h
        rwa [show 2 * Nat.div k 2 + 2 = k + 1 by show 2 * (k / 2) + 2 = k + 1; omega] at this
section
variable {ρ : Rho} {σ : List (Nat × Lin)} {lo : Nat} {θ θr : Th}
theorem denS_upd {l : Str} : denS (updR ρ σ) l = denS ρ l := by
  unfold denS
  rfl
theorem map_same {α β : Type} {a b : Option α} {f : α → β} {u : β} (h : a = b) (k : b.map f = some u) : a.map f = some u := h ▸ k
mutual
theorem backV_ok (hθ : ∀ t, t < lo → θr t = θ t) : ∀ {v v' : SV} {u : Value}, backV σ lo v v' = true → den ρ θ v' = some u → den (updR ρ σ) θr v = some u
  | v, v', u, h, hu => by
    cases v <;> cases v' <;> first
      | (simp only [backV] at h; done)
      | (simp [backV] at h; done)
      | exact hu
      | skip
    all_goals simp only [backV, Bool.and_eq_true, Nat.beq_eq, Nat.blt_eq, eqI_iff, ikEq_iff, beq_iff_eq] at h
    · obtain ⟨rfl, rfl⟩ := h; exact hu
    · obtain ⟨⟨rfl, h1⟩, h2⟩ := h
      have := substL_den (ρ := ρ) (σ := σ) h1
      rw [eqLin_ok h2, const_den] at this
      simp only [den] at hu ⊢
      rw [← this]; exact hu
    · obtain ⟨⟨rfl, h1⟩, h2⟩ := h
      have := substL_den (ρ := ρ) (σ := σ) h1
      rw [eqLin_ok h2] at this
      simp only [den] at hu ⊢
      rw [← this]; exact hu
    · subst h; exact hu
    · have := eqStr_ok h
      subst this
      simp only [den] at hu ⊢
      rw [denS_upd]; exact hu
    · obtain ⟨⟨h1, rfl⟩, rfl⟩ := h
      exact map_same (hθ _ h1) hu
    · obtain ⟨⟨⟨⟨h1, rfl⟩, rfl⟩, rfl⟩, h2⟩ := h
      have := capEq_ok h2
      subst this
      exact map_same (hθ _ h1) hu
    · obtain ⟨⟨h1, rfl⟩, h2⟩ := h
      have := eqStr_ok h2
      subst this
      simp only [den] at hu ⊢
      rw [denS_upd]
      exact map_same (hθ _ h1) hu
    · simp only [den, Option.map_eq_some_iff] at hu ⊢
      obtain ⟨us, h1, h2⟩ := hu
      exact ⟨us, backVs_ok hθ h h1, h2⟩
    · simp only [den, Option.map_eq_some_iff] at hu ⊢
      obtain ⟨us, h1, h2⟩ := hu
      exact ⟨us, backVs_ok hθ h h1, h2⟩
    · obtain ⟨⟨rfl, h1⟩, h2⟩ := h
      simp only [den, Option.bind_eq_some_iff, Option.map_eq_some_iff] at hu ⊢
      obtain ⟨a, e1, b, e2, e3⟩ := hu
      exact ⟨a, backVs_ok hθ h1 e1, b, backVs_ok hθ h2 e2, e3⟩
    · obtain ⟨h1, rfl⟩ := h
      exact map_same (hθ _ h1) hu
theorem backVs_ok (hθ : ∀ t, t < lo → θr t = θ t) : ∀ {l l' : List SV} {us : List Value}, backVs σ lo l l' = true → dens ρ θ l' = some us → dens (updR ρ σ) θr l = some us
  | [], [], us, _, h => h
  | a :: l, b :: m, us, h, hu => by
    simp only [backVs, Bool.and_eq_true] at h
    simp only [dens, Option.bind_eq_some_iff, Option.map_eq_some_iff] at hu ⊢
    obtain ⟨u, h1, us', h2, h3⟩ := hu
    exact ⟨u, backV_ok hθ h.1 h1, us', backVs_ok hθ h.2 h2, h3⟩
  | [], _ :: _, us, h, _ => by cases h
  | _ :: _, [], us, h, _ => by cases h
end
theorem backEs_ok (hθ : ∀ t, t < lo → θr t = θ t) : ∀ {l l' : List (SV × SV × Nat)} {us : List MapEntry}, backEs σ lo l l' = true → denE ρ θ l' = some us → denE (updR ρ σ) θr l = some us
  | [], [], us, _, h => h
  | (a, b, n) :: l, (c, d, k) :: m, us, h, hu => by
    simp only [backEs, Bool.and_eq_true, Nat.beq_eq] at h
    obtain ⟨⟨⟨h1, h2⟩, rfl⟩, h3⟩ := h
    simp only [denE, Option.bind_eq_some_iff, Option.map_eq_some_iff] at hu ⊢
    obtain ⟨x, e1, y, e2, es, e3, e4⟩ := hu
    exact ⟨x, backV_ok hθ h1 e1, y, backV_ok hθ h2 e2, es, backEs_ok hθ h3 e3, e4⟩
  | [], _ :: _, us, h, _ => by cases h
  | _ :: _, [], us, h, _ => by cases h
theorem backB_ok (hθ : ∀ t, t < lo → θr t = θ t) {t : Nat} (ht : t < lo) {w : World} {b b' : Blk} (h : backB σ lo b b' = true) (hb : HoldsB ρ θ w t b') : HoldsB (updR ρ σ) θr w t b := by
  cases b <;> cases b' <;> first | (simp [backB] at h; done) | skip
  all_goals simp only [backB, Bool.and_eq_true, Nat.beq_eq, beq_iff_eq] at h
  · obtain ⟨⟨rfl, h1⟩, rfl⟩ := h
    obtain ⟨g, c, vs, arr, rest, f1, f2, f3, f4, f5, f6, f7⟩ := hb
    exact ⟨g, c, vs, arr, rest, by rw [hθ t ht]; exact f1, f2, f3, backVs_ok hθ h1 f4, f5, f6, f7⟩
  · obtain ⟨rfl, h1⟩ := h
    have := eqStr_ok h1
    subst this
    obtain ⟨g, c, arr, rest, f1, f2, f3, f4⟩ := hb
    exact ⟨g, c, arr, rest, by rw [hθ t ht]; exact f1, f2, f3, by rw [denS_upd]; exact f4⟩
  · obtain ⟨h1, rfl⟩ := h
    obtain ⟨g, c, arr, f1, f2, f3⟩ := hb
    exact ⟨g, c, arr, by rw [hθ t ht]; exact f1, f2, backEs_ok hθ h1 f3⟩
end

/-! ### The rule -/
def backPC (σ : List (Nat × Lin)) (pc' : PC) : PC → Bool
  | [] => true
  | e :: l => plainL e && proves pc' (substL σ e) && backPC σ pc' l
def backAt (σ : List (Nat × Lin)) (lo : Nat) (s : Tr SV) (m : Mem) (pc : PC) (s' : Tr SV) (m' : Mem) (pc' : PC) : Bool :=
  allT (fun k v => match s'.get k with | some v' => backV σ lo v v' | none => false) s id &&
  allT (fun t b => Nat.blt t lo && match m'.get t with | some b' => backB σ lo b b' | none => false) m id &&
  backPC σ pc' pc
def backMu (σ : List (Nat × Lin)) (μ : Lin) (pc' : PC) : Bool := plainL μ && proves pc' (μ.add (.mk (-1) [])) && proves pc' (μ.sub ((substL σ μ).add (.mk 1 [])))
def backOk (σ : List (Nat × Lin)) (lo : Nat) (μ : Lin) (s : Tr SV) (m : Mem) (pc : PC) (s' : Tr SV) (m' : Mem) (pc' : PC) : Bool := backAt σ lo s m pc s' m' pc' && backMu σ μ pc'
theorem backPC_ok {ρ : Rho} {σ : List (Nat × Lin)} {pc' : PC} (hs : Sat ρ pc') : ∀ {pc : PC}, backPC σ pc' pc = true → Sat (updR ρ σ) pc
  | [], _, e, he => by cases he
  | x :: l, h, e, he => by
    simp only [backPC, Bool.and_eq_true] at h
    rcases List.mem_cons.1 he with rfl | he
    · rw [← substL_den h.1.1]; exact proves_ok h.1.2 hs
    · exact backPC_ok hs h.2 e he
def lessT (θ : Th) (lo hi : Nat) : Th := fun t => if lo ≤ t ∧ t < hi then none else θ t
section
variable {P : Program} {ρ : Rho} {σ : List (Nat × Lin)} {lo : Nat} {s s' : Tr SV} {m m' : Mem} {pc pc' : PC} {μ : Lin} {n : Nat}
structure BackR (ρ : Rho) (σ : List (Nat × Lin)) (n lo : Nat) (s : Tr SV) (m : Mem) (pc : PC) (s' : Tr SV) (m' : Mem) : Prop where
  pc : Sat (updR ρ σ) pc
  at_ : ∀ (hi : Nat) (a : Act) (w : World) (θ : Th), At ρ n s' m' a w θ → At (updR ρ σ) n s m a w (lessT θ lo hi)
  sub : ∀ t, m.get t ≠ none → t < lo ∧ m'.get t ≠ none
theorem back_mu (hs : Sat ρ pc') (h : backMu σ μ pc' = true) : 1 ≤ μ.den ρ ∧ μ.den (updR ρ σ) < μ.den ρ := by
  simp only [backMu, Bool.and_eq_true] at h
  obtain ⟨⟨h4, h5⟩, h6⟩ := h
  have d5 := proves_ok h5 hs
  have d6 := proves_ok h6 hs
  rw [add_den, const_den] at d5
  rw [sub_den, add_den, const_den, substL_den h4] at d6
  omega
theorem back_ok (hs : Sat ρ pc') (h : backAt σ lo s m pc s' m' pc' = true) : BackR ρ σ n lo s m pc s' m' := by
  simp only [backAt, Bool.and_eq_true] at h
  obtain ⟨⟨h1, h2⟩, h3⟩ := h
  have k2 := allT_ok h2
  have memk : ∀ t b, m.get t = some b → t < lo ∧ ∃ b', m'.get t = some b' ∧ backB σ lo b b' = true := fun t b hb => by
    have := k2 t b hb
    simp only [id, Bool.and_eq_true, Nat.blt_eq] at this
    refine ⟨this.1, ?_⟩
    have h7 := this.2
    split at h7
    · rename_i b' hb'; exact ⟨b', hb', h7⟩
    · cases h7
  have ne : ∀ t, m.get t ≠ none → t < lo ∧ m'.get t ≠ none := fun t ht => by
    cases hb : m.get t with
    | none => exact absurd hb ht
    | some b => obtain ⟨q1, b', q2, _⟩ := memk t b hb; exact ⟨q1, by rw [q2]; simp⟩
  refine ⟨backPC_ok hs h3, fun hi a w θ hA => ?_, ne⟩
  have hθ : ∀ t, t < lo → lessT θ lo hi t = θ t := fun t ht => if_neg (by omega)
  refine ⟨hA.defers, hA.size, fun k sv hk => ?_, fun t b hb => ?_, fun x y g c c' hx hy e1 e2 => ?_⟩
  · have := allT_ok h1 k sv hk
    simp only [id] at this
    split at this
    · rename_i v' hv'
      exact backV_ok hθ this (hA.slot k v' hv')
    · cases this
  · obtain ⟨q1, b', q2, q3⟩ := memk t b hb
    exact backB_ok hθ q1 q3 (hA.mem.holds t b' q2)
  · obtain ⟨l1, n1⟩ := ne x hx
    obtain ⟨l2, n2⟩ := ne y hy
    rw [hθ x l1] at e1
    rw [hθ y l2] at e2
    exact hA.mem.inj x y g c c' n1 n2 e1 e2
theorem SP.trans2 {ρ1 ρ2 : Rho} {nx nx1 nx2 : Nat} {θ θ' θ2 : Th} {R R' R2 : Nat → Option Blk} {w w' w2 : World} (h : SP ρ1 nx nx1 θ R w θ' R' w') (k : SP ρ2 nx1 nx2 θ' R' w' θ2 R2 w2) (h1 : nx ≤ nx1) (h2 : nx1 ≤ nx2) : SP ρ2 nx nx2 θ R w θ2 R2 w2 := by
  refine ⟨h.le.trans k.le, fun t ht => ?_, k.mem, ?_, fun g hg => ?_⟩
  · rcases k.new t ht with a | a
    · rcases h.new t a with b | b
      · exact .inl b
      · exact .inr ⟨b.1, by omega⟩
    · exact .inr ⟨by omega, a.2⟩
  · refine ⟨k.ext.os.trans h.ext.os, k.ext.tape.trans h.ext.tape, k.ext.output.trans h.ext.output, Nat.le_trans h.ext.size k.ext.size, fun i hi hn => ?_⟩
    rw [k.ext.block i (Nat.lt_of_lt_of_le hi h.ext.size) fun hb => ?_, h.ext.block i hi hn]
    rcases h.own i hb with a | a
    · exact hn a
    · omega
  · rcases k.own g hg with a | a
    · exact h.own g a
    · exact .inr (Nat.le_trans h.ext.size a)
/-- told anew, what lies from lo on is forgotten -/
theorem SP.back {hi nx : Nat} {θ θ1 : Th} {w w' : World} {M0 : Nat → Option Blk} (hb : BackR ρ σ n lo s m pc s' m') {a' : Act} (hA : At ρ n s' m' a' w' θ1) (hsp : SP ρ nx hi θ M0 w θ1 m'.get w') (hlo : nx ≤ lo) (hfr : ∀ t, nx ≤ t → t < hi → θ t = none) : SP (updR ρ σ) nx lo θ M0 w (lessT θ1 lo hi) m.get w' := by
  have hA2 := hb.at_ hi a' w' θ1 hA
  refine ⟨fun t x hx => ?_, fun t ht => ?_, hA2.mem, hsp.ext, fun g hg => ?_⟩
  · unfold lessT
    split
    · rename_i q; rw [hfr t (by omega) q.2] at hx; cases hx
    · exact hsp.le t x hx
  · unfold lessT at ht
    split at ht
    · exact absurd rfl ht
    · rename_i q
      rcases hsp.new t ht with z | z
      · exact .inl z
      · refine .inr ⟨z.1, ?_⟩
        rcases Nat.lt_or_ge t lo with l | l
        · exact l
        · exact absurd ⟨l, z.2⟩ q
  · obtain ⟨t, c, q1, q2⟩ := hg
    obtain ⟨l1, n1⟩ := hb.sub t q1
    unfold lessT at q2
    rw [if_neg (by omega)] at q2
    exact hsp.own g ⟨t, c, n1, q2⟩
/-- what a loop comes to -/
structure LoopR (P : Program) (ρ : Rho) (n : Nat) (body : Code) (s : Tr SV) (m : Mem) (lo hi : Nat) (ρ' : Rho) (e : AX) (o : OS) : Prop where
  ne : e ≠ .normal
  pc : Sat ρ' o.pc
  str : ρ'.s = ρ.s
  le : lo ≤ o.nx
  run : ∀ (a : Act) (w : World) (θ : Th), At ρ n s m a w θ → (∀ t, lo ≤ t → t < hi → θ t = none) → LoopWp P body (fun e' a' w' => exIs e e' ∧ ∃ θ', At ρ' n o.s o.m a' w' θ' ∧ SP ρ' lo o.nx θ m.get w θ' o.m.get w') a w
/-- THE RULE for loops -/
theorem loop_rule (hm : P.follows .mixedOrders = true) {sm : SumT} (hsm : ∀ ρ, SumOk P ρ sm) {fuel hi : Nat} {body : Code} (σf : Tr SV → Mem → List (Nat × Lin)) {Kx : AX → Tr SV → Mem → Nat → PC → Bool} (hd : dstOk n body = true) (hlo : lo ≤ hi)
    (hk : ev P sm fuel body s m lo pc (fun e s' m' nx' pc' => Nat.ble nx' hi && match e with
      | .normal => backOk (σf s' m') lo μ s m pc s' m' pc'
      | e => Kx e s' m' nx' pc') = true) : ∀ (k : Nat) (ρ : Rho), Sat ρ pc → (μ.den ρ).toNat = k → ∃ ρ' e o, Kx e o.s o.m o.nx o.pc = true ∧ LoopR P ρ n body s m lo hi ρ' e o := by
  intro k
  induction k using Nat.strongRecOn with
  | _ k ih =>
    intro ρ hs hμ
    obtain ⟨⟨e, o⟩, hr, hk', _⟩ := ev_yl hm (hsm ρ) fuel n body s m lo pc hs hd (fun r => Nat.ble r.2.nx hi && match r.1 with
      | .normal => backOk (σf r.2.s r.2.m) lo μ s m pc r.2.s r.2.m r.2.pc
      | e => Kx e r.2.s r.2.m r.2.nx r.2.pc) hk
    simp only [Bool.and_eq_true, Nat.ble_eq] at hk'
    obtain ⟨hle, hk'⟩ := hk'
    have cut : e ≠ .normal → Kx e o.s o.m o.nx o.pc = true → ∃ ρ' e o, Kx e o.s o.m o.nx o.pc = true ∧ LoopR P ρ n body s m lo hi ρ' e o := fun hne hkx => by
      refine ⟨ρ, e, o, hkx, hne, hr.pc, rfl, hr.le, fun a w θ hA hfr => ?_⟩
      refine loop_step (wp_mono (hr.run a w θ hA fun t q1 q2 => hfr t q1 (by simp only at q2; omega)).wp (then_cut (e := e) hne (fun e' a' w' he h => ?_) fun e' a' w' h => h.1))
      obtain ⟨_, θ', h1, h2⟩ := h
      exact ⟨he, θ', h1, h2⟩
    cases e with
    | exit i => exact cut (by simp) hk'
    | ret => exact cut (by simp) hk'
    | normal =>
      simp only [backOk, Bool.and_eq_true] at hk'
      have hmu := back_mu hr.pc hk'.2
      have hb := back_ok (n := n) hr.pc hk'.1
      obtain ⟨ρ', e', o', h1, h2⟩ := ih _ (by omega) (updR ρ (σf o.s o.m)) hb.pc rfl
      refine ⟨ρ', e', o', h1, h2.ne, h2.pc, h2.str, h2.le, fun a w θ hA hfr => ?_⟩
      refine loop_step (wp_mono (hr.run a w θ hA fun t q1 q2 => hfr t q1 (by simp only at q2; omega)).wp fun e a' w' hp => ?_)
      obtain ⟨he, θ1, hA1, hsp⟩ := hp
      cases he
      have hA2 := hb.at_ hi a' w' θ1 hA1
      have hsp1 := SP.back hb hA1 (hsp.wk (Nat.le_refl _) hle) (Nat.le_refl _) hfr
      refine (h2.run a' w' _ hA2 fun t q1 q2 => if_pos ⟨q1, q2⟩).mono fun e2 a2 w2 ⟨he2, θ2, hA3, hsp2⟩ => ?_
      exact ⟨he2, θ2, hA3, hsp1.trans2 hsp2 (Nat.le_refl _) h2.le⟩
end
end X
end Go.Proofs.YtppdehodcoffbaaGreatDoor
