/-
  A rule for loops that go through an unknown string: what is behind (0), the byte there (1), what is ahead (2); the same one round later: 3, 4, 5. Over any program.
-/
import Derived.Test.YtdbchpoaoghgpaaGreatDoorW8
set_option linter.unusedSimpArgs false
set_option linter.unusedVariables false
namespace Go.Proofs.YtdbchpoaoghgpaaGreatDoor
namespace X
open Go.RowKit B

/-! ### One round later -/
def rnI (j : Nat) : Nat := match Nat.beq (Nat.mod j 4) 1 with
  | true => match Nat.blt (Nat.div j 4) 3 with
    | true => Nat.add j 12
    | false => j
  | false => match Nat.beq (Nat.mod j 4) 3 with
    | true => match Nat.blt (Nat.mod (Nat.div j 8) 16) 3 with
      | true => Nat.add j 24
      | false => j
    | false => j
def inB (i : Nat) : Bool := Nat.blt i 3 || Nat.ble 6 i
def okI (j : Nat) : Bool := match Nat.beq (Nat.mod j 4) 1 with
  | true => inB (Nat.div j 4)
  | false => match Nat.beq (Nat.mod j 4) 3 with
    | true => inB (Nat.mod (Nat.div j 8) 16) && (Nat.beq (Nat.mod j 8) 3 || Nat.blt (Nat.div j 128) 256)
    | false => true
def rnT : List (Nat × Int) → List (Nat × Int)
  | [] => []
  | (i, a) :: l => (rnI i, a) :: rnT l
def okT : List (Nat × Int) → Bool
  | [] => true
  | (i, _) :: l => okI i && okT l
def rnL : Lin → Lin
  | .mk c l => .mk c (rnT l)
def okL : Lin → Bool
  | .mk _ l => okT l
def rnS : Str → Str
  | [] => []
  | .c n :: l => .c n :: rnS l
  | .a i :: l => (match Nat.blt i 3 with
    | true => .a (Nat.add i 3)
    | false => .a i) :: rnS l
def okS : Str → Bool
  | [] => true
  | .c _ :: l => okS l
  | .a i :: l => inB i && okS l
mutual
def rnV : SV → SV
  | .x k e => .x k (rnL e)
  | .s l => .s (rnS l)
  | .sb t l => .sb t (rnS l)
  | .ag l => .ag (rnVs l)
  | .tu l => .tu (rnVs l)
  | .fn f a b => .fn f (rnVs a) (rnVs b)
  | .sv t e => .sv t (rnL e)
  | v => v
def rnVs : List SV → List SV
  | [] => []
  | v :: l => rnV v :: rnVs l
end
mutual
def okV : SV → Bool
  | .x _ e => okL e
  | .s l => okS l
  | .sb _ l => okS l
  | .ag l => okVs l
  | .tu l => okVs l
  | .fn _ a b => okVs a && okVs b
  | .sv _ e => okL e
  | _ => true
def okVs : List SV → Bool
  | [] => true
  | v :: l => okV v && okVs l
end
def rnE : List (SV × SV × Nat) → List (SV × SV × Nat)
  | [] => []
  | (a, b, n) :: l => (rnV a, rnV b, n) :: rnE l
def okE : List (SV × SV × Nat) → Bool
  | [] => true
  | (a, b, _) :: l => okV a && okV b && okE l
def rnB : Blk → Blk
  | .ce t l x => .ce t (rnVs l) x
  | .bt t l => .bt t (rnS l)
  | .mp es c => .mp (rnE es) c
  | .ob t l => .ob t (rnS l)
  | .cv l => .cv (rnVs l)
  | .cq n b => .cq n b
  | .cx ty n b => .cx ty n b
def okB : Blk → Bool
  | .ce _ l _ => okVs l
  | .bt _ l => okS l
  | .mp es _ => okE es
  | .ob _ l => okS l
  | .cv l => okVs l
  | .cq _ _ => true
  | .cx _ _ _ => true
def rnPC : PC → PC
  | [] => []
  | e :: l => rnL e :: rnPC l
def okPC : PC → Bool
  | [] => true
  | e :: l => okL e && okPC l
def dn (ρ : Rho) : Rho := ⟨ρ.v, fun i => match i with
  | 0 => ρ.s 3
  | 1 => ρ.s 4
  | 2 => ρ.s 5
  | 3 => ρ.s 3 ++ ρ.s 4
  | 4 => (ρ.s 5).take 1
  | 5 => (ρ.s 5).drop 1
  | i => ρ.s i⟩
section
variable {ρ : Rho} {θ : Th}
theorem dn_lt {i : Nat} (h : i < 3) : (dn ρ).s i = ρ.s (i + 3) := by
  have : i = 0 ∨ i = 1 ∨ i = 2 := by omega
  rcases this with rfl | rfl | rfl <;> rfl
theorem dn_ge {i : Nat} (h : 6 ≤ i) : (dn ρ).s i = ρ.s i := by
  obtain ⟨k, rfl⟩ : ∃ k, i = k + 6 := ⟨i - 6, by omega⟩
  rfl
theorem inB_or {i : Nat} (h : inB i = true) : i < 3 ∨ (¬ i < 3 ∧ 6 ≤ i) := by
  simp only [inB, Bool.or_eq_true, Nat.blt_eq, Nat.ble_eq] at h
  omega
theorem rnI_at {j : Nat} (h : okI j = true) : (dn ρ).at j = ρ.at (rnI j) := by
  unfold okI at h
  unfold rnI
  split at h
  · rename_i hm
    have hm : j % 4 = 1 := Nat.eq_of_beq_eq_true hm
    obtain ⟨i, rfl⟩ : ∃ i, j = 4 * i + 1 := ⟨j / 4, by omega⟩
    have hd : Nat.div (4 * i + 1) 4 = i := by show (4 * i + 1) / 4 = i; omega
    simp only [hd] at h ⊢
    rw [Rho.at_l]
    rcases inB_or h with h | ⟨h1, h2⟩
    · rw [show Nat.blt i 3 = true by rw [Nat.blt_eq]; exact h]
      rw [dn_lt h, show Nat.add (4 * i + 1) 12 = 4 * (i + 3) + 1 by show 4 * i + 1 + 12 = _; omega, Rho.at_l]
    · rw [show Nat.blt i 3 = false by rw [Bool.eq_false_iff]; intro q; exact h1 (by rw [Nat.blt_eq] at q; exact q)]
      rw [dn_ge h2, Rho.at_l]
  · rename_i hm
    have hm : ¬ j % 4 = 1 := fun e => Nat.ne_of_beq_eq_false hm e
    split at h
    · rename_i hm3
      have hm3 : j % 4 = 3 := Nat.eq_of_beq_eq_true hm3
      have hlt : j / 8 % 16 < 16 := Nat.mod_lt _ (by omega)
      have h8 : j % 8 = 3 ∨ j % 8 = 7 := by omega
      simp only [Bool.and_eq_true, Bool.or_eq_true, Nat.beq_eq, Nat.blt_eq] at h
      have h' : inB (j / 8 % 16) = true := h.1
      have hk : j % 8 = 3 ∨ j / 128 < 256 := h.2
      show (dn ρ).at j = ρ.at (match Nat.blt (j / 8 % 16) 3 with | true => Nat.add j 24 | false => j)
      rcases inB_or h' with hb | ⟨h1, h2⟩
      · rw [show Nat.blt (j / 8 % 16) 3 = true by rw [Nat.blt_eq]; exact hb]
        show (dn ρ).at j = ρ.at (j + 24)
        have e1 : (j + 24) / 8 % 16 = j / 8 % 16 + 3 := by omega
        have e2 : (j + 24) / 128 = j / 128 := by omega
        unfold Rho.at
        rw [if_neg (show ¬ j % 4 = 1 by omega), if_neg (show ¬ (j + 24) % 4 = 1 by omega)]
        rcases h8 with h8 | h8
        · rw [if_pos h8, if_pos (show (j + 24) % 8 = 3 by omega), dn_lt hb, e1, e2]; rfl
        · rw [if_neg (show ¬ j % 8 = 3 by omega), if_pos h8, if_neg (show ¬ (j + 24) % 8 = 3 by omega), if_pos (show (j + 24) % 8 = 7 by omega), dn_lt hb, e1, e2, if_pos (show j / 128 < 256 by omega), if_pos (show j / 128 < 256 by omega)]
      · rw [show Nat.blt (j / 8 % 16) 3 = false by rw [Bool.eq_false_iff]; intro q; exact h1 (by rw [Nat.blt_eq] at q; exact q)]
        show (dn ρ).at j = ρ.at j
        unfold Rho.at
        rw [if_neg (show ¬ j % 4 = 1 by omega), if_neg (show ¬ j % 4 = 1 by omega)]
        rcases h8 with h8 | h8
        · rw [if_pos h8, if_pos h8, dn_ge h2]; rfl
        · rw [if_neg (show ¬ j % 8 = 3 by omega), if_pos h8, if_neg (show ¬ j % 8 = 3 by omega), if_pos h8, dn_ge h2, if_pos (show j / 128 < 256 by omega), if_pos (show j / 128 < 256 by omega)]
    · rename_i hm3
      have hm3 : ¬ j % 4 = 3 := fun e => Nat.ne_of_beq_eq_false hm3 e
      show (dn ρ).at j = ρ.at j
      unfold Rho.at
      rw [if_neg hm, if_neg (by omega), if_neg (by omega), if_neg hm, if_neg (by omega), if_neg (by omega)]
      rfl
theorem rnT_den : ∀ {l : List (Nat × Int)}, okT l = true → dts ρ (rnT l) = dts (dn ρ) l
  | [], _ => rfl
  | (i, a) :: l, h => by
    simp only [okT, Bool.and_eq_true] at h
    simp only [rnT, dts, rnT_den h.2, rnI_at h.1]
theorem rnL_den {e : Lin} (h : okL e = true) : (rnL e).den ρ = e.den (dn ρ) := by
  cases e with
  | mk c l => simp only [rnL, Lin.den, rnT_den (show okT l = true from h)]
theorem rnS_den : ∀ {l : Str}, okS l = true → denS ρ (rnS l) = denS (dn ρ) l
  | [], _ => rfl
  | .c n :: l, h => by
    simp only [rnS, denS_cons, rnS_den (show okS l = true from h)]; rfl
  | .a i :: l, h => by
    simp only [okS, Bool.and_eq_true] at h
    simp only [rnS, denS_cons, rnS_den h.2]
    congr 1
    rcases inB_or h.1 with hb | ⟨h1, h2⟩
    · rw [show Nat.blt i 3 = true by rw [Nat.blt_eq]; exact hb]
      exact (dn_lt hb).symm
    · rw [show Nat.blt i 3 = false by rw [Bool.eq_false_iff]; intro q; exact h1 (by rw [Nat.blt_eq] at q; exact q)]
      exact (dn_ge h2).symm
mutual
theorem rnV_den : ∀ {v : SV}, okV v = true → den ρ θ (rnV v) = den (dn ρ) θ v
  | .x k e, h => by simp only [rnV, den, rnL_den (show okL e = true from h)]
  | .s l, h => by simp only [rnV, den, rnS_den (show okS l = true from h)]
  | .sb t l, h => by simp only [rnV, den, rnS_den (show okS l = true from h)]
  | .ag l, h => by simp only [rnV, den, rnVs_den (show okVs l = true from h)]
  | .tu l, h => by simp only [rnV, den, rnVs_den (show okVs l = true from h)]
  | .fn f a b, h => by
    simp only [okV, Bool.and_eq_true] at h
    simp only [rnV, den, rnVs_den h.1, rnVs_den h.2]
  | .i k n, _ => rfl
  | .b b, _ => rfl
  | .p t o, _ => rfl
  | .np, _ => rfl
  | .sl t o n c, _ => rfl
  | .ns, _ => rfl
  | .nf, _ => rfl
  | .ni, _ => rfl
  | .nm, _ => rfl
  | .mp t, _ => rfl
  | .su t, _ => rfl
  | .g a b, _ => rfl
  | .un, _ => rfl
  | .sv t e, h => by simp only [rnV, den, rnL_den (show okL e = true from h)]
  | .pv t n, _ => rfl
  | .sx t n, _ => rfl
theorem rnVs_den : ∀ {l : List SV}, okVs l = true → dens ρ θ (rnVs l) = dens (dn ρ) θ l
  | [], _ => rfl
  | v :: l, h => by
    simp only [okVs, Bool.and_eq_true] at h
    simp only [rnVs, dens, rnV_den h.1, rnVs_den h.2]
end
theorem rnE_den : ∀ {l : List (SV × SV × Nat)}, okE l = true → denE ρ θ (rnE l) = denE (dn ρ) θ l
  | [], _ => rfl
  | (a, b, n) :: l, h => by
    simp only [okE, Bool.and_eq_true] at h
    simp only [rnE, denE, rnV_den h.1.1, rnV_den h.1.2, rnE_den h.2]
theorem rnB_ok {w : World} {t : Nat} {b : Blk} (h : okB b = true) (hb : HoldsB ρ θ w t (rnB b)) : HoldsB (dn ρ) θ w t b := by
  cases b with
  | ce ty cs ex =>
    obtain ⟨g, c, vs, arr, rest, f1, f2, f3, f4, f5⟩ := hb
    exact ⟨g, c, vs, arr, rest, f1, f2, f3, (rnVs_den (show okVs cs = true from h)).symm.trans f4, f5⟩
  | bt ty l =>
    obtain ⟨g, c, arr, rest, f1, f2, f3, f4⟩ := hb
    exact ⟨g, c, arr, rest, f1, f2, f3, by rw [← rnS_den (show okS l = true from h)]; exact f4⟩
  | mp es ck =>
    obtain ⟨g, c, arr, f1, f2, f3⟩ := hb
    exact ⟨g, c, arr, f1, f2, (rnE_den (show okE es = true from h)).symm.trans f3⟩
  | ob ty l =>
    obtain ⟨g, c, arr, rest, ss, f1, f2, f3, f4⟩ := hb
    exact ⟨g, c, arr, rest, ss, f1, f2, f3, by rw [← rnS_den (show okS l = true from h)]; exact f4⟩
  | cv cs =>
    obtain ⟨g, c, vs, f1, f2, f3, f4⟩ := hb
    exact ⟨g, c, vs, f1, f2, (rnVs_den (show okVs cs = true from h)).symm.trans f3, f4⟩
  | cq n b => exact hb
  | cx ty n b => exact hb
theorem rnPC_ok : ∀ {pc : PC}, okPC pc = true → Sat ρ (rnPC pc) → Sat (dn ρ) pc
  | [], _, _, e, he => by cases he
  | x :: l, h, hs, e, he => by
    simp only [okPC, Bool.and_eq_true] at h
    rcases List.mem_cons.1 he with rfl | he
    · rw [← rnL_den h.1]; exact hs _ (by simp [rnPC])
    · exact rnPC_ok h.2 (fun e he => hs e (by simp [rnPC, he])) e he
end
end X
end Go.Proofs.YtdbchpoaoghgpaaGreatDoor

set_option linter.unusedSimpArgs false
set_option linter.unusedVariables false
namespace Go.Proofs.YtdbchpoaoghgpaaGreatDoor
namespace X
open Go.RowKit B

/-! ### Slots, written down -/
abbrev SL := List (Nat × SV)
def mkV : SL → Tr SV → (Tr SV → Bool) → Bool
  | [], m, K => K m
  | (t, b) :: l, m, K => m.set t (some b) fun m => mkV l m K
def mkUV : SL → Tr SV → Tr SV
  | [], m => m
  | (t, b) :: l, m => mkUV l (Tr.up 23 m t (some b))
def allS (p : Nat → SV → Bool) : SL → Bool
  | [] => true
  | (t, b) :: l => p t b && allS p l
theorem allS_ok {p : Nat → SV → Bool} : ∀ {l : SL}, allS p l = true → ∀ t b, (t, b) ∈ l → p t b = true
  | [], _, t, b, h => by cases h
  | (s, c) :: l, hp, t, b, h => by
    simp only [allS, Bool.and_eq_true] at hp
    rcases List.mem_cons.1 h with h | h
    · cases h; exact hp.1
    · exact allS_ok hp.2 t b h
theorem mkV_ok : ∀ {l : SL} {m : Tr SV} {K : Tr SV → Bool}, mkV l m K = true → K (mkUV l m) = true ∧ ∀ t b, (mkUV l m).get t = some b → (t, b) ∈ l ∨ m.get t = some b
  | [], m, K, h => ⟨h, fun t b e => .inr e⟩
  | (s, c) :: l, m, K, h => by
    simp only [mkV, Tr.set] at h
    split at h
    · rename_i hk
      have hk' : s < 2 ^ 22 := by have := Nat.le_of_ble_eq_true hk; omega
      rw [Tr.put_eq (f := 22) hk'] at h
      obtain ⟨h1, h2⟩ := mkV_ok (l := l) h
      refine ⟨h1, fun t b e => ?_⟩
      rcases h2 t b e with k | k
      · exact .inl (List.mem_cons_of_mem _ k)
      · rw [Tr.up_get hk'] at k
        split at k
        · rename_i e; subst e; cases k; exact .inl (by simp)
        · exact .inr k
    · cases h
theorem mkV_told {l : SL} {K : Tr SV → Bool} (h : mkV l .lf K = true) : K (mkUV l .lf) = true ∧ ∀ t b, (mkUV l .lf).get t = some b → (t, b) ∈ l := by
  obtain ⟨h1, h2⟩ := mkV_ok h
  refine ⟨h1, fun t b e => ?_⟩
  rcases h2 t b e with k | k
  · exact k
  · simp [Tr.get] at k

/-! ### A round's beginning -/
structure TS where
  s : SL
  l : ML
  pc : PC
  nx : Nat
def prSl : SL → Tr SV → Al → Al
  | [], _, al => al
  | (k, v) :: l, s', al => prSl l s' (match s'.get k with | some v' => prV 50 v v' al | none => al)
def stepAl (rs : Rules) (lo : Nat) (T : TS) (s' : Tr SV) (m' : Mem) (pc' : PC) (al : Al) : Bool :=
  alOk lo T.nx al &&
  allS (fun k v => okV v && match s'.get k with | some v' => sameV al lo rs pc' (rnV v) v' | none => false) T.s &&
  allL (fun t b => okB b && Nat.blt t T.nx && (!Nat.blt t lo || !memV t al) && match m'.get (tagOf al lo t) with
    | some b' => tagOk al lo t (tagOf al lo t) && sameB al lo rs pc' (rnB b) b'
    | none => false) T.l && okPC T.pc && allP pc' (rnPC T.pc)
def stepOk (rs : Rules) (lo : Nat) (T : TS) (m0 : Mem) (s' : Tr SV) (m' : Mem) (pc' : PC) : Bool :=
  prGo lo m0 m' 100000 (prSl T.s s' (oldT lo m' T.l [])) [] fun al => stepAl rs lo T s' m' pc' al
/-- what the tags stand for in the next round -/
def thN (al : Al) (lo nx hi : Nat) (θ : Th) : Th := fun t => if lo ≤ t ∧ t < hi then (if t < nx then (match findT al t with | some u => θ u | none => none) else none) else θ t
section
variable {P : Program} {ρ : Rho} {rs : Rules} {lo hi n : Nat} {T : TS} {s0 s' : Tr SV} {m0 m' : Mem} {pc' : PC}
structure StepR (ρ : Rho) (n lo hi : Nat) (T : TS) (s0 : Tr SV) (m0 : Mem) (s' : Tr SV) (m' : Mem) (al : Al) : Prop where
  pc : Sat (dn ρ) T.pc
  at_ : ∀ (a : Act) (w : World) (θ : Th), At ρ n s' m' a w θ → At (dn ρ) n s0 m0 a w (thN al lo T.nx hi θ)
  own : ∀ (θ : Th) (g : Nat), Bl (thN al lo T.nx hi θ) m0.get g → Bl θ m'.get g
theorem step_ok (hs : Sat ρ pc') (hr : RulesOk ρ rs) (hT : Told T.l m0) (hS : ∀ k v, s0.get k = some v → (k, v) ∈ T.s) (hhi : T.nx ≤ hi) (h : stepOk rs lo T m0 s' m' pc' = true) : ∃ al, StepR ρ n lo hi T s0 m0 s' m' al := by
  obtain ⟨al, h⟩ := prGo_ok h
  simp only [stepAl, Bool.and_eq_true] at h
  obtain ⟨⟨⟨⟨ea, e1⟩, e2⟩, e3⟩, e4⟩ := h
  have e1 := allS_ok e1
  have e2 := allL_ok e2
  have mk : ∀ t b, m0.get t = some b → okB b = true ∧ t < T.nx ∧ (t < lo → memV t al = false) ∧ tagOk al lo t (tagOf al lo t) = true ∧ ∃ b', m'.get (tagOf al lo t) = some b' ∧ sameB al lo rs pc' (rnB b) b' = true := fun t b hb => by
    have := e2 t b (hT t b hb)
    simp only [Bool.and_eq_true, Nat.blt_eq] at this
    obtain ⟨⟨⟨q1, q2⟩, q3⟩, q4⟩ := this
    refine ⟨q1, q2, fun hl => ?_, ?_⟩
    · rw [show Nat.blt t lo = true by rw [Nat.blt_eq]; exact hl] at q3
      simpa using q3
    · split at q4
      · rename_i b' hb'
        simp only [Bool.and_eq_true] at q4
        exact ⟨q4.1, b', hb', q4.2⟩
      · cases q4
  have mn : ∀ t, m0.get t ≠ none → t < T.nx ∧ (t < lo → memV t al = false) ∧ tagOk al lo t (tagOf al lo t) = true ∧ m'.get (tagOf al lo t) ≠ none := fun t ht => by
    cases hb : m0.get t with
    | none => exact absurd hb ht
    | some b => obtain ⟨_, q1, q2, q3, b', q4, _⟩ := mk t b hb; exact ⟨q1, q2, q3, by rw [q4]; simp⟩
  have hθ : ∀ θ, TagsOk al lo (thN al lo T.nx hi θ) θ := fun θ t u h => by
    unfold tagOk at h
    split at h
    · rename_i hl
      rw [Nat.blt_eq] at hl
      have := Nat.eq_of_beq_eq_true h
      subst this
      unfold thN
      rw [if_neg (by omega)]
    · split at h
      · rename_i x hx
        have := Nat.eq_of_beq_eq_true h
        subst this
        have hrg := alOk_rng ea _ _ hx
        unfold thN
        rw [if_pos (by omega), if_pos hrg.2, hx]
      · cases h
  refine ⟨al, rnPC_ok e3 (allP_ok hs e4), fun a w θ hA => ⟨hA.defers, hA.size, fun k sv hk => ?_, fun t b hb => ?_, fun s t g c c' h1 h2 h3 h4 => ?_⟩, fun θ g ⟨t, c, q1, q2⟩ => ?_⟩
  · have := e1 k sv (hS k sv hk)
    simp only [Bool.and_eq_true] at this
    obtain ⟨q1, q2⟩ := this
    split at q2
    · rename_i v' hv'
      rw [← rnV_den q1, sameV_ok hs hr (hθ θ) q2]
      exact hA.slot k v' hv'
    · cases q2
  · obtain ⟨q0, q1, q2, q3, b', q4, q5⟩ := mk t b hb
    exact rnB_ok q0 (sameB_ok hs hr (hθ θ) (hθ θ _ _ q3) q5 (hA.mem.holds _ b' q4))
  · obtain ⟨k1, kk, k2, k3⟩ := mn s h1
    obtain ⟨l1, ll, l2, l3⟩ := mn t h2
    have := hA.mem.inj _ _ g c c' k3 l3 ((hθ θ _ _ k2).symm.trans h3) ((hθ θ _ _ l2).symm.trans h4)
    have cs : ∀ x, tagOk al lo x (tagOf al lo x) = true → (x < lo ∧ tagOf al lo x = x) ∨ (lo ≤ x ∧ findT al x = some (tagOf al lo x)) := fun x hx => by
      unfold tagOk at hx
      split at hx
      · rename_i hl
        rw [Nat.blt_eq] at hl
        exact .inl ⟨hl, (Nat.eq_of_beq_eq_true hx).symm⟩
      · split at hx
        · rename_i y hy
          have := Nat.eq_of_beq_eq_true hx
          exact .inr ⟨(alOk_rng ea _ _ hy).1, by rw [hy, this]⟩
        · cases hx
    rcases cs s k2 with ⟨a1, a2⟩ | ⟨a1, a3⟩ <;> rcases cs t l2 with ⟨b1, b2⟩ | ⟨b1, b3⟩
    · omega
    · rw [← this, a2] at b3
      exact absurd b3 (memV_find (kk a1) t)
    · rw [this, b2] at a3
      exact absurd a3 (memV_find (ll b1) s)
    · rw [this] at a3
      exact alOk_inj ea _ _ _ a3 b3
  · obtain ⟨k1, _, k2, k3⟩ := mn t q1
    exact ⟨_, c, k3, (hθ θ _ _ k2).symm.trans q2⟩
theorem StepR.sp {al : Al} {nxp : Nat} {θp θ : Th} {Mp : Nat → Option Blk} {wp w : World} {a : Act} (h : StepR ρ n lo hi T s0 m0 s' m' al) (hA : At ρ n s' m' a w θ) (hsp : SP ρ nxp hi θp Mp wp θ m'.get w) (h1 : nxp ≤ lo) (h2 : lo ≤ T.nx) (hfr : ∀ t, nxp ≤ t → t < hi → θp t = none) :
    SP (dn ρ) nxp T.nx θp Mp wp (thN al lo T.nx hi θ) m0.get w := by
  refine ⟨fun t x hx => ?_, fun t ht => ?_, (h.at_ a w θ hA).mem, hsp.ext, fun g hg => hsp.own g (h.own θ g hg)⟩
  · have hn : ¬ (lo ≤ t ∧ t < hi) := fun q => by rw [hfr t (by omega) q.2] at hx; cases hx
    unfold thN
    rw [if_neg hn]
    exact hsp.le t x hx
  · unfold thN at ht
    split at ht
    · rename_i q
      split at ht
      · exact .inr ⟨by omega, by assumption⟩
      · exact absurd rfl ht
    · rename_i q
      rcases hsp.new t ht with z | z
      · exact .inl z
      · refine .inr ⟨z.1, ?_⟩
        rcases Nat.lt_or_ge t lo with l | l
        · omega
        · exact absurd ⟨l, z.2⟩ q
end

/-! ### The rule -/
/-- strings 0 to 5: what is behind, the byte there, what is ahead; one round later -/
structure JR (ρ : Rho) (rest : List UInt8) : Prop where
  s1 : ρ.s 1 = rest.take 1
  s2 : ρ.s 2 = rest.drop 1
  s3 : ρ.s 3 = ρ.s 0 ++ ρ.s 1
  s4 : ρ.s 4 = (ρ.s 2).take 1
  s5 : ρ.s 5 = (ρ.s 2).drop 1
theorem JR.dn {ρ : Rho} {b : UInt8} {r : List UInt8} (h : JR ρ (b :: r)) : JR (dn ρ) r ∧ (dn ρ).s 0 = ρ.s 0 ++ [b] := by
  have e2 : ρ.s 2 = r := h.s2
  have e1 : ρ.s 1 = [b] := h.s1
  refine ⟨⟨?_, ?_, rfl, rfl, rfl⟩, ?_⟩
  · show ρ.s 4 = r.take 1
    rw [h.s4, e2]
  · show ρ.s 5 = r.drop 1
    rw [h.s5, e2]
  · show ρ.s 3 = _
    rw [h.s3, e1]
structure LoopS (P : Program) (ρ : Rho) (n : Nat) (body : Code) (s0 : Tr SV) (m0 : Mem) (lo nx hi : Nat) (ρ' : Rho) (e : AX) (o : OS) : Prop where
  ne : e ≠ .normal
  pc : Sat ρ' o.pc
  le : nx ≤ o.nx
  top : o.nx ≤ hi
  run : ∀ (a : Act) (w wp : World) (θ θp : Th) (Mp : Nat → Option Blk), At ρ n s0 m0 a w θ → (∀ t, nx ≤ t → t < hi → θ t = none) → (∀ t, lo ≤ t → t < hi → θp t = none) → SP ρ lo nx θp Mp wp θ m0.get w →
    LoopWp P body (fun e' a' w' => exIs e e' ∧ ∃ θ', At ρ' n o.s o.m a' w' θ' ∧ SP ρ' lo o.nx θp Mp wp θ' o.m.get w') a w
theorem loop_str {P : Program} {n : Nat} (hm : P.follows .mixedOrders = true) {sm : SumT} (hsm : ∀ ρ, SumOk P ρ sm) {fuel lo hi : Nat} {body : Code} {T : TS} {rs : Rules} {pc1 pc2 : PC} {C : List UInt8 → Prop} {Kx : AX → Tr SV → Mem → Nat → PC → Bool} (hd : dstOk n body = true) (hlo : lo ≤ T.nx) (hhi : T.nx ≤ hi) (hC : ∀ b r, C (b :: r) → C r)
    (hk1 : mkV T.s .lf (fun s0 => mkK T.l .lf fun m0 => ev P sm fuel body s0 m0 T.nx (pc1 ++ T.pc) fun e s' m' nx' pc' => Nat.ble nx' hi && match e with
      | .normal => stepOk rs lo T m0 s' m' pc'
      | e => Kx e s' m' nx' pc') = true)
    (hk2 : mkV T.s .lf (fun s0 => mkK T.l .lf fun m0 => ev P sm fuel body s0 m0 T.nx (pc2 ++ T.pc) fun e s' m' nx' pc' => Nat.ble nx' hi && match e with
      | .normal => false
      | e => Kx e s' m' nx' pc') = true)
    (hpc1 : ∀ ρ b r, JR ρ (b :: r) → C (b :: r) → Sat ρ T.pc → Sat ρ pc1) (hrs : ∀ ρ b r, JR ρ (b :: r) → C (b :: r) → RulesOk ρ rs) (hpc2 : ∀ ρ, JR ρ [] → Sat ρ T.pc → Sat ρ pc2) :
    ∀ (rest : List UInt8) (ρ : Rho), JR ρ rest → C rest → Sat ρ T.pc → ∃ ρ' e o rest', Kx e o.s o.m o.nx o.pc = true ∧ ρ'.v = ρ.v ∧ (∀ i, 6 ≤ i → ρ'.s i = ρ.s i) ∧ ρ'.s 0 ++ rest' = ρ.s 0 ++ rest ∧ JR ρ' rest' ∧
      LoopS P ρ n body (mkUV T.s .lf) (mkU T.l .lf) lo T.nx hi ρ' e o := by
  obtain ⟨k1, hS⟩ := mkV_told hk1
  obtain ⟨k1, hT⟩ := mkK_told k1
  obtain ⟨k2, _⟩ := mkV_told hk2
  obtain ⟨k2, _⟩ := mkK_told k2
  generalize mkUV T.s .lf = s0 at *
  generalize mkU T.l .lf = m0 at *
  have app : ∀ {ρ : Rho} {l m : PC}, Sat ρ l → Sat ρ m → Sat ρ (l ++ m) := fun h1 h2 e he => by
    rcases List.mem_append.1 he with h | h
    · exact h1 e h
    · exact h2 e h
  intro rest
  induction rest with
  | nil =>
    intro ρ hJ hc hs
    obtain ⟨⟨e, o⟩, hr, hk', _⟩ := ev_yl hm (hsm ρ) fuel n body s0 m0 T.nx _ (app (hpc2 ρ hJ hs) hs) hd (fun r => Nat.ble r.2.nx hi && match r.1 with
      | .normal => false
      | e => Kx e r.2.s r.2.m r.2.nx r.2.pc) k2
    simp only [Bool.and_eq_true, Nat.ble_eq] at hk'
    obtain ⟨hle, hk'⟩ := hk'
    have hne : e ≠ .normal := fun q => by subst q; simp at hk'
    refine ⟨ρ, e, o, [], ?_, rfl, fun _ _ => rfl, rfl, hJ, hne, hr.pc, hr.le, hle, fun a w wp θ θp Mp hA hf1 hf2 hsp => ?_⟩
    · cases e <;> first | exact absurd rfl hne | exact hk'
    · refine loop_step (wp_mono (hr.run a w θ hA fun t q1 q2 => hf1 t q1 (by simp only at q2; omega)).wp (then_cut (e := e) hne (fun e' a' w' he h => ?_) fun e' a' w' h => h.1))
      obtain ⟨_, θ', h1, h2⟩ := h
      exact ⟨he, θ', h1, hsp.trans h2 hlo hr.le⟩
  | cons b r ih =>
    intro ρ hJ hc hs
    obtain ⟨⟨e, o⟩, hr, hk', _⟩ := ev_yl hm (hsm ρ) fuel n body s0 m0 T.nx _ (app (hpc1 ρ b r hJ hc hs) hs) hd (fun r => Nat.ble r.2.nx hi && match r.1 with
      | .normal => stepOk rs lo T m0 r.2.s r.2.m r.2.pc
      | e => Kx e r.2.s r.2.m r.2.nx r.2.pc) k1
    simp only [Bool.and_eq_true, Nat.ble_eq] at hk'
    obtain ⟨hle, hk'⟩ := hk'
    have cut : e ≠ .normal → Kx e o.s o.m o.nx o.pc = true → ∃ ρ' e o rest', Kx e o.s o.m o.nx o.pc = true ∧ ρ'.v = ρ.v ∧ (∀ i, 6 ≤ i → ρ'.s i = ρ.s i) ∧ ρ'.s 0 ++ rest' = ρ.s 0 ++ b :: r ∧ JR ρ' rest' ∧
        LoopS P ρ n body s0 m0 lo T.nx hi ρ' e o := fun hne hkx => by
      refine ⟨ρ, e, o, b :: r, hkx, rfl, fun _ _ => rfl, rfl, hJ, hne, hr.pc, hr.le, hle, fun a w wp θ θp Mp hA hf1 hf2 hsp => ?_⟩
      refine loop_step (wp_mono (hr.run a w θ hA fun t q1 q2 => hf1 t q1 (by simp only at q2; omega)).wp (then_cut (e := e) hne (fun e' a' w' he h => ?_) fun e' a' w' h => h.1))
      obtain ⟨_, θ', h1, h2⟩ := h
      exact ⟨he, θ', h1, hsp.trans h2 hlo hr.le⟩
    cases e with
    | exit i => exact cut (by simp) hk'
    | ret => exact cut (by simp) hk'
    | normal =>
      obtain ⟨al, hst⟩ := step_ok (n := n) (hi := hi) hr.pc (hrs ρ b r hJ hc) hT hS hhi hk'
      obtain ⟨hJ2, h0⟩ := hJ.dn
      obtain ⟨ρ', e', o', rest', z1, z2, z3, z4, z5, z6⟩ := ih (dn ρ) hJ2 (hC b r hc) hst.pc
      refine ⟨ρ', e', o', rest', z1, z2, fun i hi => (z3 i hi).trans (dn_ge hi), ?_, z5, z6.ne, z6.pc, z6.le, z6.top, fun a w wp θ θp Mp hA hf1 hf2 hsp => ?_⟩
      · rw [z4, h0]; simp
      · refine loop_step (wp_mono (hr.run a w θ hA fun t q1 q2 => hf1 t q1 (by simp only at q2; omega)).wp fun e a' w' hp => ?_)
        obtain ⟨he, θ1, hA1, hsp1⟩ := hp
        cases he
        have hA2 := hst.at_ a' w' θ1 hA1
        have hsp2 := (hsp.trans hsp1 hlo hr.le).wk (Nat.le_refl _) hle
        have hsp3 := hst.sp hA1 hsp2 (Nat.le_refl _) hlo hf2
        exact z6.run a' w' wp _ θp Mp hA2 (fun t q1 q2 => by unfold thN; rw [if_pos ⟨by omega, q2⟩, if_neg (by omega)]) hf2 hsp3
end X
end Go.Proofs.YtdbchpoaoghgpaaGreatDoor

set_option linter.unusedSimpArgs false
set_option linter.unusedVariables false
namespace Go.Proofs.YtdbchpoaoghgpaaGreatDoor
namespace X
open Go.RowKit B

/-! ### A state told otherwise -/
def matchAl (rs : Rules) (lo : Nat) (T : TS) (s' : Tr SV) (m' : Mem) (pc' : PC) (al : Al) : Bool :=
  alOk lo T.nx al &&
  allS (fun k v => match s'.get k with | some v' => sameV al lo rs pc' v v' | none => false) T.s &&
  allL (fun t b => Nat.blt t T.nx && (!Nat.blt t lo || !memV t al) && match m'.get (tagOf al lo t) with
    | some b' => tagOk al lo t (tagOf al lo t) && sameB al lo rs pc' b b'
    | none => false) T.l && allP pc' T.pc
def matchOk (rs : Rules) (lo : Nat) (T : TS) (m0 : Mem) (s' : Tr SV) (m' : Mem) (pc' : PC) : Bool :=
  prGo lo m0 m' 100000 (prSl T.s s' (oldT lo m' T.l [])) [] fun al => matchAl rs lo T s' m' pc' al
section
variable {P : Program} {ρ : Rho} {rs : Rules} {lo hi n : Nat} {T : TS} {s0 s' : Tr SV} {m0 m' : Mem} {pc' : PC}
structure MatchR (ρ : Rho) (n lo hi : Nat) (T : TS) (s0 : Tr SV) (m0 : Mem) (s' : Tr SV) (m' : Mem) (al : Al) : Prop where
  pc : Sat ρ T.pc
  at_ : ∀ (a : Act) (w : World) (θ : Th), At ρ n s' m' a w θ → At ρ n s0 m0 a w (thN al lo T.nx hi θ)
  own : ∀ (θ : Th) (g : Nat), Bl (thN al lo T.nx hi θ) m0.get g → Bl θ m'.get g
  old : ∀ t, t < lo → m0.get t ≠ none → m'.get t ≠ none
  lt : ∀ t, m0.get t ≠ none → t < T.nx
theorem matchAl_ok {al : Al} (hs : Sat ρ pc') (hr : RulesOk ρ rs) (hT : Told T.l m0) (hS : ∀ k v, s0.get k = some v → (k, v) ∈ T.s) (hhi : T.nx ≤ hi) (h : matchAl rs lo T s' m' pc' al = true) : MatchR ρ n lo hi T s0 m0 s' m' al := by
  simp only [matchAl, Bool.and_eq_true] at h
  obtain ⟨⟨⟨ea, e1⟩, e2⟩, e4⟩ := h
  have e1 := allS_ok e1
  have e2 := allL_ok e2
  have mk : ∀ t b, m0.get t = some b → t < T.nx ∧ (t < lo → memV t al = false) ∧ tagOk al lo t (tagOf al lo t) = true ∧ ∃ b', m'.get (tagOf al lo t) = some b' ∧ sameB al lo rs pc' b b' = true := fun t b hb => by
    have := e2 t b (hT t b hb)
    simp only [Bool.and_eq_true, Nat.blt_eq] at this
    obtain ⟨⟨q2, q3⟩, q4⟩ := this
    refine ⟨q2, fun hl => ?_, ?_⟩
    · rw [show Nat.blt t lo = true by rw [Nat.blt_eq]; exact hl] at q3
      simpa using q3
    · split at q4
      · rename_i b' hb'
        simp only [Bool.and_eq_true] at q4
        exact ⟨q4.1, b', hb', q4.2⟩
      · cases q4
  have mn : ∀ t, m0.get t ≠ none → t < T.nx ∧ (t < lo → memV t al = false) ∧ tagOk al lo t (tagOf al lo t) = true ∧ m'.get (tagOf al lo t) ≠ none := fun t ht => by
    cases hb : m0.get t with
    | none => exact absurd hb ht
    | some b => obtain ⟨q1, q2, q3, b', q4, _⟩ := mk t b hb; exact ⟨q1, q2, q3, by rw [q4]; simp⟩
  have hθ : ∀ θ, TagsOk al lo (thN al lo T.nx hi θ) θ := fun θ t u h => by
    unfold tagOk at h
    split at h
    · rename_i hl
      rw [Nat.blt_eq] at hl
      have := Nat.eq_of_beq_eq_true h
      subst this
      unfold thN
      rw [if_neg (by omega)]
    · split at h
      · rename_i x hx
        have := Nat.eq_of_beq_eq_true h
        subst this
        have hrg := alOk_rng ea _ _ hx
        unfold thN
        rw [if_pos (by omega), if_pos hrg.2, hx]
      · cases h
  refine ⟨allP_ok hs e4, fun a w θ hA => ⟨hA.defers, hA.size, fun k sv hk => ?_, fun t b hb => ?_, fun s t g c c' h1 h2 h3 h4 => ?_⟩, fun θ g ⟨t, c, q1, q2⟩ => ?_, fun t hl ht => ?_, fun t ht => (mn t ht).1⟩
  · have q2 := e1 k sv (hS k sv hk)
    split at q2
    · rename_i v' hv'
      rw [sameV_ok hs hr (hθ θ) q2]
      exact hA.slot k v' hv'
    · cases q2
  · obtain ⟨q1, q2, q3, b', q4, q5⟩ := mk t b hb
    exact sameB_ok hs hr (hθ θ) (hθ θ _ _ q3) q5 (hA.mem.holds _ b' q4)
  · obtain ⟨k1, kk, k2, k3⟩ := mn s h1
    obtain ⟨l1, ll, l2, l3⟩ := mn t h2
    have := hA.mem.inj _ _ g c c' k3 l3 ((hθ θ _ _ k2).symm.trans h3) ((hθ θ _ _ l2).symm.trans h4)
    have cs : ∀ x, tagOk al lo x (tagOf al lo x) = true → (x < lo ∧ tagOf al lo x = x) ∨ (lo ≤ x ∧ findT al x = some (tagOf al lo x)) := fun x hx => by
      unfold tagOk at hx
      split at hx
      · rename_i hl
        rw [Nat.blt_eq] at hl
        exact .inl ⟨hl, (Nat.eq_of_beq_eq_true hx).symm⟩
      · split at hx
        · rename_i y hy
          have := Nat.eq_of_beq_eq_true hx
          exact .inr ⟨(alOk_rng ea _ _ hy).1, by rw [hy, this]⟩
        · cases hx
    rcases cs s k2 with ⟨a1, a2⟩ | ⟨a1, a3⟩ <;> rcases cs t l2 with ⟨b1, b2⟩ | ⟨b1, b3⟩
    · omega
    · rw [← this, a2] at b3
      exact absurd b3 (memV_find (kk a1) t)
    · rw [this, b2] at a3
      exact absurd a3 (memV_find (ll b1) s)
    · rw [this] at a3
      exact alOk_inj ea _ _ _ a3 b3
  · obtain ⟨k1, _, k2, k3⟩ := mn t q1
    exact ⟨_, c, k3, (hθ θ _ _ k2).symm.trans q2⟩
  · obtain ⟨_, _, _, k3⟩ := mn t ht
    have : tagOf al lo t = t := by unfold tagOf; rw [show Nat.blt t lo = true by rw [Nat.blt_eq]; exact hl]
    rw [this] at k3
    exact k3
theorem match_ok (hs : Sat ρ pc') (hr : RulesOk ρ rs) (hT : Told T.l m0) (hS : ∀ k v, s0.get k = some v → (k, v) ∈ T.s) (hhi : T.nx ≤ hi) (h : matchOk rs lo T m0 s' m' pc' = true) : ∃ al, MatchR ρ n lo hi T s0 m0 s' m' al := by
  obtain ⟨al, h⟩ := prGo_ok h
  exact ⟨al, matchAl_ok hs hr hT hS hhi h⟩
theorem MatchR.sp {al : Al} {nxp : Nat} {θp θ : Th} {Mp : Nat → Option Blk} {wp w : World} {a : Act} (h : MatchR ρ n lo hi T s0 m0 s' m' al) (hA : At ρ n s' m' a w θ) (hsp : SP ρ nxp hi θp Mp wp θ m'.get w) (h1 : nxp ≤ lo) (h2 : lo ≤ T.nx) (hfr : ∀ t, nxp ≤ t → t < hi → θp t = none) :
    SP ρ nxp T.nx θp Mp wp (thN al lo T.nx hi θ) m0.get w := by
  refine ⟨fun t x hx => ?_, fun t ht => ?_, (h.at_ a w θ hA).mem, hsp.ext, fun g hg => hsp.own g (h.own θ g hg)⟩
  · have hn : ¬ (lo ≤ t ∧ t < hi) := fun q => by rw [hfr t (by omega) q.2] at hx; cases hx
    unfold thN
    rw [if_neg hn]
    exact hsp.le t x hx
  · unfold thN at ht
    split at ht
    · rename_i q
      split at ht
      · exact .inr ⟨by omega, by assumption⟩
      · exact absurd rfl ht
    · rename_i q
      rcases hsp.new t ht with z | z
      · exact .inl z
      · refine .inr ⟨z.1, ?_⟩
        rcases Nat.lt_or_ge t lo with l | l
        · omega
        · exact absurd ⟨l, z.2⟩ q
end

/-! ### What does not speak of strings 0 to 5 -/
def hiI (j : Nat) : Bool := match Nat.beq (Nat.mod j 4) 1 with
  | true => Nat.ble 6 (Nat.div j 4)
  | false => match Nat.beq (Nat.mod j 4) 3 with
    | true => Nat.ble 6 (Nat.mod (Nat.div j 8) 16) && (Nat.blt (Nat.div j 128) 256 || Nat.ble 262 (Nat.div j 128))
    | false => true
def hiT : List (Nat × Int) → Bool
  | [] => true
  | (i, _) :: l => hiI i && hiT l
def hiL : Lin → Bool
  | .mk _ l => hiT l
def hiS : Str → Bool
  | [] => true
  | .c _ :: l => hiS l
  | .a i :: l => Nat.ble 6 i && hiS l
mutual
def hiV : SV → Bool
  | .x _ e => hiL e
  | .s l => hiS l
  | .sb _ l => hiS l
  | .ag l => hiVs l
  | .tu l => hiVs l
  | .fn _ a b => hiVs a && hiVs b
  | .sv _ e => hiL e
  | _ => true
def hiVs : List SV → Bool
  | [] => true
  | v :: l => hiV v && hiVs l
end
def hiE : List (SV × SV × Nat) → Bool
  | [] => true
  | (a, b, _) :: l => hiV a && hiV b && hiE l
def hiB : Blk → Bool
  | .ce _ l _ => hiVs l
  | .bt _ l => hiS l
  | .mp es _ => hiE es
  | .ob _ l => hiS l
  | .cv l => hiVs l
  | .cq _ _ => true
  | .cx _ _ _ => true
def hiPC : PC → Bool
  | [] => true
  | e :: l => hiL e && hiPC l
structure Agree (ρ ρ' : Rho) : Prop where
  v : ρ'.v = ρ.v
  s : ∀ i, 6 ≤ i → ρ'.s i = ρ.s i
section
variable {ρ ρ' : Rho} {θ : Th}
theorem hiI_at (h : Agree ρ ρ') {j : Nat} (hj : hiI j = true) : ρ'.at j = ρ.at j := by
  unfold hiI at hj
  split at hj
  · rename_i hm
    have hm : j % 4 = 1 := Nat.eq_of_beq_eq_true hm
    have h6 : 6 ≤ j / 4 := Nat.le_of_ble_eq_true hj
    unfold Rho.at
    rw [if_pos hm, if_pos hm, h.s _ h6]
  · rename_i hm
    have hm : ¬ j % 4 = 1 := fun e => Nat.ne_of_beq_eq_false hm e
    split at hj
    · simp only [Bool.and_eq_true, Bool.or_eq_true, Nat.ble_eq, Nat.blt_eq] at hj
      have h6 : 6 ≤ j / 8 % 16 := hj.1
      have hk : j / 128 < 256 ∨ 262 ≤ j / 128 := hj.2
      unfold Rho.at
      rw [if_neg hm, if_neg hm, h.s _ h6, h.v]
      rcases hk with hk | hk
      · rw [if_pos hk, if_pos hk]
      · rw [if_neg (show ¬ j / 128 < 256 by omega), if_neg (show ¬ j / 128 < 256 by omega), h.s _ (show 6 ≤ j / 128 - 256 by omega)]
    · rename_i hm3
      have hm3 : ¬ j % 4 = 3 := fun e => Nat.ne_of_beq_eq_false hm3 e
      unfold Rho.at
      rw [if_neg hm, if_neg hm, if_neg (show ¬ j % 8 = 3 by omega), if_neg (show ¬ j % 8 = 7 by omega), if_neg (show ¬ j % 8 = 3 by omega), if_neg (show ¬ j % 8 = 7 by omega), h.v]
theorem hiT_den (h : Agree ρ ρ') : ∀ {l : List (Nat × Int)}, hiT l = true → dts ρ' l = dts ρ l
  | [], _ => rfl
  | (i, a) :: l, hl => by
    simp only [hiT, Bool.and_eq_true] at hl
    simp only [dts, hiT_den h hl.2, hiI_at h hl.1]
theorem hiL_den (h : Agree ρ ρ') {e : Lin} (he : hiL e = true) : e.den ρ' = e.den ρ := by
  cases e with
  | mk c l => simp only [Lin.den, hiT_den h (show hiT l = true from he)]
theorem hiS_den (h : Agree ρ ρ') : ∀ {l : Str}, hiS l = true → denS ρ' l = denS ρ l
  | [], _ => rfl
  | .c n :: l, hl => by
    simp only [denS_cons, hiS_den h (show hiS l = true from hl)]; rfl
  | .a i :: l, hl => by
    simp only [hiS, Bool.and_eq_true] at hl
    simp only [denS_cons, hiS_den h hl.2]
    congr 1
    exact h.s _ (Nat.le_of_ble_eq_true hl.1)
mutual
theorem hiV_den (h : Agree ρ ρ') : ∀ {v : SV}, hiV v = true → den ρ' θ v = den ρ θ v
  | .x k e, hv => by simp only [den, hiL_den h (show hiL e = true from hv)]
  | .s l, hv => by simp only [den, hiS_den h (show hiS l = true from hv)]
  | .sb t l, hv => by simp only [den, hiS_den h (show hiS l = true from hv)]
  | .ag l, hv => by simp only [den, hiVs_den h (show hiVs l = true from hv)]
  | .tu l, hv => by simp only [den, hiVs_den h (show hiVs l = true from hv)]
  | .fn f a b, hv => by
    simp only [hiV, Bool.and_eq_true] at hv
    simp only [den, hiVs_den h hv.1, hiVs_den h hv.2]
  | .i k n, _ => rfl
  | .b b, _ => rfl
  | .p t o, _ => rfl
  | .np, _ => rfl
  | .sl t o n c, _ => rfl
  | .ns, _ => rfl
  | .nf, _ => rfl
  | .ni, _ => rfl
  | .nm, _ => rfl
  | .mp t, _ => rfl
  | .su t, _ => rfl
  | .g a b, _ => rfl
  | .un, _ => rfl
  | .sv t e, hv => by simp only [den, hiL_den h (show hiL e = true from hv)]
  | .pv t n, _ => rfl
  | .sx t n, _ => by simp only [den, h.v]
theorem hiVs_den (h : Agree ρ ρ') : ∀ {l : List SV}, hiVs l = true → dens ρ' θ l = dens ρ θ l
  | [], _ => rfl
  | v :: l, hl => by
    simp only [hiVs, Bool.and_eq_true] at hl
    simp only [dens, hiV_den h hl.1, hiVs_den h hl.2]
end
theorem hiE_den (h : Agree ρ ρ') : ∀ {l : List (SV × SV × Nat)}, hiE l = true → denE ρ' θ l = denE ρ θ l
  | [], _ => rfl
  | (a, b, n) :: l, hl => by
    simp only [hiE, Bool.and_eq_true] at hl
    simp only [denE, hiV_den h hl.1.1, hiV_den h hl.1.2, hiE_den h hl.2]
theorem hiB_ok (h : Agree ρ ρ') {w : World} {t : Nat} {b : Blk} (hb : hiB b = true) (hh : HoldsB ρ' θ w t b) : HoldsB ρ θ w t b := by
  cases b with
  | ce ty cs ex =>
    obtain ⟨g, c, vs, arr, rest, f1, f2, f3, f4, f5⟩ := hh
    exact ⟨g, c, vs, arr, rest, f1, f2, f3, (hiVs_den h (show hiVs cs = true from hb)).symm.trans f4, f5⟩
  | bt ty l =>
    obtain ⟨g, c, arr, rest, f1, f2, f3, f4⟩ := hh
    exact ⟨g, c, arr, rest, f1, f2, f3, by rw [← hiS_den h (show hiS l = true from hb)]; exact f4⟩
  | mp es ck =>
    obtain ⟨g, c, arr, f1, f2, f3⟩ := hh
    exact ⟨g, c, arr, f1, f2, (hiE_den h (show hiE es = true from hb)).symm.trans f3⟩
  | ob ty l =>
    obtain ⟨g, c, arr, rest, ss, f1, f2, f3, f4⟩ := hh
    exact ⟨g, c, arr, rest, ss, f1, f2, f3, by rw [← hiS_den h (show hiS l = true from hb)]; exact f4⟩
  | cv cs =>
    obtain ⟨g, c, vs, f1, f2, f3, f4⟩ := hh
    exact ⟨g, c, vs, f1, f2, (hiVs_den h (show hiVs cs = true from hb)).symm.trans f3, f4⟩
  | cx ty n b =>
    obtain ⟨g, c, arr, rest, f1, f2, f3, f4⟩ := hh
    exact ⟨g, c, arr, rest, f1, f2, f3, by
      have : pairs ρ n b = pairs ρ' n b := by unfold pairs; rw [h.v]
      rw [this]; exact f4⟩
  | cq n b =>
    obtain ⟨g, c, f1, f2, f3⟩ := hh
    exact ⟨g, c, f1, f2, fun j hj => by rw [← h.v] at hj ⊢; exact f3 j hj⟩
theorem hiPC_ok (h : Agree ρ ρ') : ∀ {pc : PC}, hiPC pc = true → Sat ρ' pc → Sat ρ pc
  | [], _, _, e, he => by cases he
  | x :: l, hl, hs, e, he => by
    simp only [hiPC, Bool.and_eq_true] at hl
    rcases List.mem_cons.1 he with rfl | he
    · rw [← hiL_den h hl.1]; exact hs _ (by simp)
    · exact hiPC_ok h hl.2 (fun e he => hs e (by simp [he])) e he
end
end X
end Go.Proofs.YtdbchpoaoghgpaaGreatDoor

set_option linter.unusedSimpArgs false
set_option linter.unusedVariables false
namespace Go.Proofs.YtdbchpoaoghgpaaGreatDoor
namespace X
open Go.RowKit B

/-! ### The rest of the loop at once -/
structure TD where
  T : TS
  F : TS
  lo : Nat
  hi : Nat
  b : Nat
  rsE : Rules
  rs : Rules
  rsF : Rules
  pc1 : PC
  pc2 : PC
def tagIn (t : Nat) : ML → Bool
  | [] => false
  | (s, _) :: l => match Nat.beq s t with
    | true => true
    | false => tagIn t l
theorem tagIn_ok {t : Nat} : ∀ {l : ML}, tagIn t l = true → ∃ b, (t, b) ∈ l
  | [], h => by cases h
  | (s, b) :: l, h => by
    simp only [tagIn] at h
    split at h
    · rename_i hq; exact ⟨b, by rw [Nat.eq_of_beq_eq_true hq]; simp⟩
    · obtain ⟨c, hc⟩ := tagIn_ok h; exact ⟨c, by simp [hc]⟩
def no' (i : Nat) : Lin := .mk 0 [(i, -1)]
def finOk (D : TD) (e : AX) (s' : Tr SV) (m' : Mem) (nx' : Nat) (pc' : PC) : Bool := match e with
  | .exit i => Nat.beq i D.b && allP pc' [no' 5, no' 9] && mkK D.F.l .lf fun mF => matchOk D.rsF D.lo D.F mF s' m' pc'
  | _ => false
def tdStat (D : TD) : Bool := Nat.ble D.lo D.T.nx && Nat.ble D.T.nx D.hi && Nat.beq D.F.nx D.hi && allS (fun _ v => hiV v) D.F.s && allL (fun t b => hiB b && (!Nat.blt t D.lo || tagIn t D.T.l)) D.F.l && hiPC D.F.pc
def tdOk (P : Program) (sm : SumT) (fuel : Nat) (body : Code) (D : TD) : Bool :=
  tdStat D && (mkV D.T.s .lf fun s0 => mkK D.T.l .lf fun m0 => ev P sm fuel body s0 m0 D.T.nx (D.pc1 ++ D.T.pc) fun e s' m' nx' pc' => Nat.ble nx' D.hi && match e with
    | .normal => stepOk D.rs D.lo D.T m0 s' m' pc'
    | e => finOk D e s' m' nx' pc') &&
  (mkV D.T.s .lf fun s0 => mkK D.T.l .lf fun m0 => ev P sm fuel body s0 m0 D.T.nx (D.pc2 ++ D.T.pc) fun e s' m' nx' pc' => Nat.ble nx' D.hi && match e with
    | .normal => false
    | e => finOk D e s' m' nx' pc')
/-- the state is the beginning of the rest -/
def tailS (D : TD) (s : Tr SV) (m : Mem) (nx : Nat) (pc : PC) (K : KC) : Bool := match Nat.beq nx D.lo with
  | true => mkV D.T.s .lf fun _ => mkK D.T.l .lf fun m0 => match matchOk D.rsE D.lo D.T m0 s m pc with
    | true => mkV D.F.s .lf fun sF => mkK D.F.l .lf fun mF => K (.exit D.b) sF mF D.F.nx D.F.pc
    | false => false
  | false => false
/-- what the unknowns must be -/
structure TdR (ρ : Rho) (D : TD) (C : List UInt8 → Prop) (s : List UInt8) : Prop where
  jr : JR ρ s
  s0 : ρ.s 0 = []
  c : C s
  hC : ∀ b r, C (b :: r) → C r
  pc1 : ∀ ρ b r, JR ρ (b :: r) → C (b :: r) → Sat ρ D.T.pc → Sat ρ D.pc1
  rs : ∀ ρ b r, JR ρ (b :: r) → C (b :: r) → RulesOk ρ D.rs
  pc2 : ∀ ρ, JR ρ [] → Sat ρ D.T.pc → Sat ρ D.pc2
  rsE : RulesOk ρ D.rsE
  rsF : ∀ ρ', Agree ρ ρ' → JR ρ' [] → ρ'.s 0 = s → RulesOk ρ' D.rsF
theorem tail_yl {P : Program} {ρ : Rho} {n fuel : Nat} (hm : P.follows .mixedOrders = true) {sm : SumT} (hsm : ∀ ρ, SumOk P ρ sm) {body : Code} {D : TD} {C : List UInt8 → Prop} {str : List UInt8} (hd : dstOk n body = true) (hk : tdOk P sm fuel body D = true) (h : TdR ρ D C str)
    {s : Tr SV} {m : Mem} {nx : Nat} {pc : PC} (hs : Sat ρ pc) : Yl (fun K => tailS D s m nx pc fun e s m nx pc => K (e, ⟨s, m, nx, pc⟩)) (EvR P ρ n (.loop body) s m nx) := by
  intro K hK
  unfold tailS at hK
  split at hK
  · rename_i hlo
    have hlo := Nat.eq_of_beq_eq_true hlo
    subst hlo
    have hK0 := hK
    obtain ⟨hK, hS0⟩ := mkV_told hK
    have hKm := hK
    obtain ⟨hK, hT0⟩ := mkK_told hK
    have hin : ∀ {t b}, (t, b) ∈ D.T.l → (mkU D.T.l .lf).get t ≠ none := fun {t b} hb => mkU_mem (m := m) hKm hb
    split at hK
    · rename_i hmt
      obtain ⟨hK, hSF⟩ := mkV_told hK
      obtain ⟨hK, hTF⟩ := mkK_told hK
      simp only [tdOk, tdStat, Bool.and_eq_true, Nat.ble_eq, Nat.beq_eq] at hk
      obtain ⟨⟨⟨⟨⟨⟨⟨d1, d2⟩, d3⟩, d4⟩, d5⟩, d6⟩, k1⟩, k2⟩ := hk
      have d4 := allS_ok d4
      have d5 := allL_ok d5
      obtain ⟨al, MR⟩ := match_ok (n := n) (hi := D.hi) hs h.rsE hT0 hS0 d2 hmt
      obtain ⟨ρ', e, o, rest', kx, hv, hsA, hcat, hJ', LS⟩ := loop_str (n := n) hm hsm hd d1 d2 h.hC (Kx := finOk D) k1 k2 h.pc1 h.rs h.pc2 str ρ h.jr h.c MR.pc
      have hag : Agree ρ ρ' := ⟨hv, hsA⟩
      cases e with
      | normal => exact absurd rfl LS.ne
      | ret => cases kx
      | exit i =>
        simp only [finOk, Bool.and_eq_true, Nat.beq_eq] at kx
        obtain ⟨⟨rfl, kz⟩, kx⟩ := kx
        obtain ⟨kx, _⟩ := mkK_told kx
        have z := allP_ok LS.pc kz (no' 5) (by simp)
        have l1 : ρ'.at 5 = ((ρ'.s 1).length : Int) := ρ'.at_l 1
        simp only [no', Lin.den, dts, l1] at z
        have hs1 : ρ'.s 1 = [] := List.eq_nil_of_length_eq_zero (by omega)
        have hr0 : rest' = [] := by
          have := hJ'.s1
          rw [hs1] at this
          cases rest' with
          | nil => rfl
          | cons b r => cases this
        subst hr0
        rw [List.append_nil, h.s0, List.nil_append] at hcat
        obtain ⟨alF, MF⟩ := match_ok (n := n) (hi := D.hi) LS.pc (h.rsF ρ' hag hJ' hcat) hTF hSF (by omega) kx
        refine ⟨(.exit D.b, ⟨mkUV D.F.s .lf, mkU D.F.l .lf, D.F.nx, D.F.pc⟩), ⟨hiPC_ok hag d6 MF.pc, by show D.lo ≤ D.F.nx; omega, fun t h1 h2 => ?_, fun a w θ hA hfr => ?_⟩, hK, fun K' hK' => ?_⟩
        · refine ⟨?_, MF.lt t h2⟩
          rcases Nat.lt_or_ge t D.lo with l | l
          · exfalso
            cases hb : (mkU D.F.l .lf).get t with
            | none => exact h2 hb
            | some b =>
              have := d5 t b (hTF t b hb)
              simp only [Bool.and_eq_true] at this
              have h3 := this.2
              rw [show Nat.blt t D.lo = true by rw [Nat.blt_eq]; exact l] at h3
              obtain ⟨c, hc⟩ := tagIn_ok (by simpa using h3 : tagIn t D.T.l = true)
              exact MR.old t l (hin hc) h1
          · exact l
        · have hfr' : ∀ t, D.lo ≤ t → t < D.hi → θ t = none := fun t q1 q2 => hfr t q1 (by show t < D.F.nx; omega)
          have hA0 := MR.at_ a w θ hA
          have sp0 := MR.sp hA ((SP.refl (nx := D.lo) hA.mem).wk (Nat.le_refl _) (by omega)) (Nat.le_refl _) d1 hfr'
          refine (LS.run a w w _ θ m.get hA0 (fun t q1 q2 => by unfold thN; rw [if_pos ⟨by omega, q2⟩, if_neg (by omega)]) hfr' sp0).mono fun e' a' w' ⟨he, θ', hA', hsp'⟩ => ⟨he, thN alF D.lo D.F.nx D.hi θ', ?_, ?_⟩
          · have hA2 := MF.at_ a' w' θ' hA'
            exact ⟨hA2.defers, hA2.size, fun k sv hk => by rw [← hiV_den hag (d4 k sv (hSF k sv hk))]; exact hA2.slot k sv hk, fun t b hb => by
              have := d5 t b (hTF t b hb)
              simp only [Bool.and_eq_true] at this
              exact hiB_ok hag this.1 (hA2.mem.holds t b hb), hA2.mem.inj⟩
          · have sp2 := MF.sp hA' (hsp'.wk (Nat.le_refl _) LS.top) (Nat.le_refl _) (by omega) hfr'
            exact ⟨sp2.le, sp2.new, ⟨fun t b hb => by
              have := d5 t b (hTF t b hb)
              simp only [Bool.and_eq_true] at this
              exact hiB_ok hag this.1 (sp2.mem.holds t b hb), sp2.mem.inj⟩, sp2.ext, sp2.own⟩
        · unfold tailS at hK'
          simp only [Nat.beq_refl] at hK'
          have q := (mkK_told (mkV_told hK').1).1
          rw [hmt] at q
          exact (mkK_told (mkV_told q).1).1
    · cases hK
  · cases hK
end X
end Go.Proofs.YtdbchpoaoghgpaaGreatDoor

set_option linter.unusedSimpArgs false
set_option linter.unusedVariables false
namespace Go.Proofs.YtdbchpoaoghgpaaGreatDoor
namespace X
open Go.RowKit B

def goL (P : Program) (sm : SumT) (fuel : Nat) (body : Code) (trig : Tr SV → Mem → Nat → Option TD) : Nat → Tr SV → Mem → Nat → PC → KC → Bool
  | 0, _, _, _, _, _ => false
  | f + 1, s, m, nx, pc, K => match trig s m nx with
    | some D => tailS D s m nx pc K
    | none => ev P sm fuel body s m nx pc fun e s m nx pc => match e with
      | .normal => goL P sm fuel body trig f s m nx pc K
      | e => K e s m nx pc
def blkL (b : Nat) (F : KC → Bool) (K : KC) : Bool := F fun e s m nx pc => match e with
  | .exit i => match Nat.beq i b with
    | true => K .normal s m nx pc
    | false => K (.exit i) s m nx pc
  | e => K e s m nx pc
def evPlug (P : Program) (sm : SumT) (fuel : Nat) (EH : Tr SV → Mem → Nat → PC → KC → Bool) : Ctx → Tr SV → Mem → Nat → PC → KC → Bool
  | .hole, s, m, nx, pc, K => EH s m nx pc K
  | .l t c, s, m, nx, pc, K => evPlug P sm fuel EH t s m nx pc fun e s m nx pc => match e with
    | .normal => ev P sm fuel c s m nx pc K
    | e => K e s m nx pc
  | .r c t, s, m, nx, pc, K => ev P sm fuel c s m nx pc fun e s m nx pc => match e with
    | .normal => evPlug P sm fuel EH t s m nx pc K
    | e => K e s m nx pc
/-- the call of a function that is t about a loop; many: so many rounds at most are gone through one by one -/
def callL (P : Program) (sm : SumT) (fuel many : Nat) (f : Nat) (t : Ctx) (b : Nat) (body : Code) (trig : Tr SV → Mem → Nat → Option TD) (args : List SV) (m : Mem) (nx : Nat) (pc : PC) (K : SV → Mem → Nat → PC → Bool) : Bool := match P.funcs[f]? with
  | some fn => match !(fn.name == "runtime.NumGoroutine") && Nat.ble args.length fn.ntmps && dstOk fn.ntmps (plug t (.block b (.loop body))) with
    | true => argC args 0 .lf fun s => evPlug P sm fuel (fun s m nx pc K => blkL b (goL P sm fuel body trig many s m nx pc) K) t s m nx pc fun e s m nx pc => match e with
      | .exit _ => false
      | _ => resC P s m fn.results.toList fun vs => K (retV vs) m nx pc
    | false => false
  | none => false
section
variable {P : Program} {ρ : Rho} {sm : SumT} {fuel n : Nat}
theorem goL_yl (hm : P.follows .mixedOrders = true) (hsm : ∀ ρ, SumOk P ρ sm) {body : Code} {trig : Tr SV → Mem → Nat → Option TD} (htr : ∀ s m nx D, trig s m nx = some D → ∃ C str, tdOk P sm fuel body D = true ∧ TdR ρ D C str) (hd : dstOk n body = true) : ∀ (f : Nat) {s : Tr SV} {m : Mem} {nx : Nat} {pc : PC}, Sat ρ pc →
    Yl (fun K => goL P sm fuel body trig f s m nx pc fun e s m nx pc => K (e, ⟨s, m, nx, pc⟩)) (EvR P ρ n (.loop body) s m nx)
  | 0, s, m, nx, pc, _ => Yl.no
  | f + 1, s, m, nx, pc, hs => by
    unfold goL
    split
    · rename_i D hD
      obtain ⟨C, str, h1, h2⟩ := htr s m nx D hD
      exact tail_yl hm hsm hd h1 h2 hs
    · refine Yl.bind (α := AX × OS) (β := AX × OS) (F := fun K => ev P sm fuel body s m nx pc fun e s m nx pc => K (e, ⟨s, m, nx, pc⟩)) (G := fun r K => match r.1 with
        | .normal => goL P sm fuel body trig f r.2.s r.2.m r.2.nx r.2.pc fun e s m nx pc => K (e, ⟨s, m, nx, pc⟩)
        | e => K (e, r.2)) (ev_yl hm (hsm ρ) fuel n body s m nx pc hs hd) fun r hr => ?_
      obtain ⟨e, o⟩ := r
      cases e with
      | normal => exact (goL_yl hm hsm htr hd f hr.pc).mono fun r2 hr2 => hr.join hr2 fun a w Q h => loop_step h
      | exit i => exact Yl.pure (α := AX × OS) _ (hr.cut (by simp) fun a w Q Q' h h1 h2 => loop_step (wp_mono h (then_cut (by simp) h1 h2)))
      | ret => exact Yl.pure (α := AX × OS) _ (hr.cut (by simp) fun a w Q Q' h h1 h2 => loop_step (wp_mono h (then_cut (by simp) h1 h2)))
theorem blkL_yl {b : Nat} {x : Code} {s : Tr SV} {m : Mem} {nx : Nat} {F : KC → Bool} (h : Yl (fun K => F fun e s m nx pc => K (e, ⟨s, m, nx, pc⟩)) (EvR P ρ n x s m nx)) : Yl (fun K => blkL b F fun e s m nx pc => K (e, ⟨s, m, nx, pc⟩)) (EvR P ρ n (.block b x) s m nx) := by
  unfold blkL
  refine Yl.bind (α := AX × OS) (β := AX × OS) (F := fun K => F fun e s m nx pc => K (e, ⟨s, m, nx, pc⟩)) (G := fun r K => match r.1 with
    | .exit i => match Nat.beq i b with
      | true => K (.normal, r.2)
      | false => K (.exit i, r.2)
    | e => K (e, r.2)) h fun r hr => ?_
  obtain ⟨e, o⟩ := r
  have go : ∀ (e' : AX), (∀ (Q : Exit → Act → World → Prop) e1 a w, exIs e e1 → (∀ e2, exIs e' e2 → Q e2 a w) → Exit.inBlock b Q e1 a w) → EvR P ρ n (.block b x) s m nx (e', o) := fun e' h =>
    ⟨hr.pc, hr.le, hr.new, fun a w θ hA hfr => wp_block (wp_mono (hr.run a w θ hA hfr).wp fun e1 a w ⟨he, hp⟩ => h _ e1 a w he fun e2 he2 => ⟨he2, hp⟩)⟩
  cases e with
  | normal => exact Yl.pure (α := AX × OS) _ (go .normal fun Q e1 a w h1 h2 => by cases h1; exact h2 _ rfl)
  | ret => exact Yl.pure (α := AX × OS) _ (go .ret fun Q e1 a w h1 h2 => by cases h1; exact h2 _ rfl)
  | exit i =>
    show Yl (fun K => match Nat.beq i b with
      | true => K (AX.normal, o)
      | false => K (.exit i, o)) _
    split
    · rename_i hb
      refine Yl.pure (α := AX × OS) _ (go .normal fun Q e1 a w h1 h2 => ?_)
      cases h1
      simp only [Exit.inBlock]
      rw [if_pos (Nat.eq_of_beq_eq_true hb)]
      exact h2 _ rfl
    · rename_i hb
      refine Yl.pure (α := AX × OS) _ (go (.exit i) fun Q e1 a w h1 h2 => ?_)
      cases h1
      simp only [Exit.inBlock]
      rw [if_neg (Nat.ne_of_beq_eq_false hb)]
      exact h2 _ rfl
theorem seq_yl {x y : Code} {s : Tr SV} {m : Mem} {nx : Nat} {F : KC → Bool} {G : Tr SV → Mem → Nat → PC → KC → Bool} (h : Yl (fun K => F fun e s m nx pc => K (e, ⟨s, m, nx, pc⟩)) (EvR P ρ n x s m nx))
    (hG : ∀ s m nx pc, Sat ρ pc → Yl (fun K => G s m nx pc fun e s m nx pc => K (e, ⟨s, m, nx, pc⟩)) (EvR P ρ n y s m nx)) :
    Yl (fun K => F fun e s m nx pc => match e with
      | .normal => G s m nx pc fun e s m nx pc => K (e, (⟨s, m, nx, pc⟩ : OS))
      | e => K (e, ⟨s, m, nx, pc⟩)) (EvR P ρ n (.seq x y) s m nx) := by
  refine Yl.bind (α := AX × OS) (β := AX × OS) (F := fun K => F fun e s m nx pc => K (e, ⟨s, m, nx, pc⟩)) (G := fun r K => match r.1 with
    | .normal => G r.2.s r.2.m r.2.nx r.2.pc fun e s m nx pc => K (e, ⟨s, m, nx, pc⟩)
    | e => K (e, r.2)) h fun r hr => ?_
  obtain ⟨e, o⟩ := r
  cases e with
  | normal => exact (hG o.s o.m o.nx o.pc hr.pc).mono fun r2 hr2 => hr.join hr2 fun a w Q h => wp_seq (wp_mono h fun e a w h => by cases e <;> first | exact Goes.wp h | exact h)
  | exit i => exact Yl.pure (α := AX × OS) _ (hr.cut (by simp) fun a w Q Q' h h1 h2 => wp_seq (wp_mono h (then_cut (by simp) h1 h2)))
  | ret => exact Yl.pure (α := AX × OS) _ (hr.cut (by simp) fun a w Q Q' h h1 h2 => wp_seq (wp_mono h (then_cut (by simp) h1 h2)))
theorem evPlug_yl (hm : P.follows .mixedOrders = true) (hsm : SumOk P ρ sm) {H : Code} {EH : Tr SV → Mem → Nat → PC → KC → Bool} (hE : ∀ s m nx pc, Sat ρ pc → Yl (fun K => EH s m nx pc fun e s m nx pc => K (e, ⟨s, m, nx, pc⟩)) (EvR P ρ n H s m nx)) : ∀ {t : Ctx}, dstOk n (plug t H) = true → ∀ {s : Tr SV} {m : Mem} {nx : Nat} {pc : PC}, Sat ρ pc →
    Yl (fun K => evPlug P sm fuel EH t s m nx pc fun e s m nx pc => K (e, ⟨s, m, nx, pc⟩)) (EvR P ρ n (plug t H) s m nx)
  | .hole, _, s, m, nx, pc, hs => hE s m nx pc hs
  | .l t c, hd, s, m, nx, pc, hs => by
    simp only [plug, dstOk, Bool.and_eq_true] at hd
    exact seq_yl (evPlug_yl hm hsm hE hd.1 hs) fun s m nx pc hs => ev_yl hm hsm fuel n c s m nx pc hs hd.2
  | .r c t, hd, s, m, nx, pc, hs => by
    simp only [plug, dstOk, Bool.and_eq_true] at hd
    exact seq_yl (ev_yl hm hsm fuel n c s m nx pc hs hd.1) fun s m nx pc hs => evPlug_yl hm hsm hE hd.2 hs
theorem callL_yl (hm : P.follows .mixedOrders = true) (hsm : ∀ ρ, SumOk P ρ sm) {many f b : Nat} {t : Ctx} {body : Code} {trig : Tr SV → Mem → Nat → Option TD} {fn : Func} (hf : P.funcs[f]? = some fn) (hb : fn.body = some (plug t (.block b (.loop body)))) (hdb : dstOk fn.ntmps body = true)
    (htr : ∀ s m nx D, trig s m nx = some D → ∃ C str, tdOk P sm fuel body D = true ∧ TdR ρ D C str) {args : List SV} {m : Mem} {nx : Nat} {pc : PC} (hs : Sat ρ pc) : Yl (fun K => callL P sm fuel many f t b body trig args m nx pc fun v m nx pc => K ⟨v, m, nx, pc⟩) (CallR P ρ f args m nx) := by
  unfold callL
  rw [hf]
  simp only
  split
  · rename_i hok
    simp only [Bool.and_eq_true, Bool.not_eq_true', Nat.ble_eq] at hok
    obtain ⟨⟨k1, k2⟩, k3⟩ := hok
    refine Yl.bind argC_yl fun s0 hs0 => ?_
    refine Yl.bind (α := AX × OS) (β := O4) (F := fun K => evPlug P sm fuel (fun s m nx pc K => blkL b (goL P sm fuel body trig many s m nx pc) K) t s0 m nx pc fun e s m nx pc => K (e, ⟨s, m, nx, pc⟩)) (G := fun r K => match r.1 with
      | .exit _ => false
      | _ => resC P r.2.s r.2.m fn.results.toList fun vs => K ⟨retV vs, r.2.m, r.2.nx, r.2.pc⟩) (evPlug_yl hm (hsm ρ) (H := .block b (.loop body)) (fun s m nx pc hs => blkL_yl (goL_yl hm hsm htr hdb many hs)) k3 hs) fun r hr => ?_
    have fin : Yl (fun K => resC P r.2.s r.2.m fn.results.toList fun vs => K (⟨retV vs, r.2.m, r.2.nx, r.2.pc⟩ : O4)) (fun q => ((r.1 = .normal ∨ r.1 = .ret) → CallR P ρ f args m nx q)) := by
      refine Yl.map (fun vs => (⟨retV vs, r.2.m, r.2.nx, r.2.pc⟩ : O4)) (resC_yl (ρ := ρ) (n := fn.ntmps)) fun vs hvs hre => ⟨enter_run hf k1 hb, hr.pc, hr.le, hr.new, fun w θ us hus hM hfr => ?_⟩
      have hlen := dens_len hus
      refine calls_of_wp hf hb (wp_mono (hr.run _ w θ ⟨rfl, ?_, fun k sv hk => ?_, hM⟩ hfr).wp fun e a w' ⟨he, θ', hA, hsp⟩ => ?_)
      · show (us.toArray ++ Array.replicate (fn.ntmps - us.toArray.size) undef).size = fn.ntmps
        simp [hlen]; omega
      · rcases hs0 k sv hk with ⟨_, h1⟩ | h1
        · rw [Nat.sub_zero] at h1
          obtain ⟨u, h2, h3⟩ := dens_get hus h1
          rw [h3]
          have hlt := (List.getElem?_eq_some_iff.1 h2).1
          show _ = some ((us.toArray ++ Array.replicate (fn.ntmps - us.toArray.size) undef).getD k undef)
          rw [Array.getD_eq_getD_getElem?, Array.getElem?_append_left (by simpa using hlt)]
          simp [h2]
        · simp [Tr.get] at h1
      · obtain ⟨us', h1, h2⟩ := hvs a w' θ' hA
        have post : a.defers = [] ∧ ∃ v, (results fn a.tmps).run P w' = .ok v w' ∧ ∃ v' θ'', Ending.returned v = .returned v' ∧ SP ρ nx r.2.nx θ m.get w θ'' r.2.m.get w' ∧ den ρ θ'' (retV vs) = some v' :=
          ⟨hA.defers, _, run_results h2, _, θ', rfl, hsp, retV_den h1⟩
        rcases hre with h | h <;> rw [h] at he <;> cases he <;> exact post
    split
    · exact Yl.no
    · rename_i h1
      refine fin.mono fun q hq => hq ?_
      cases hr1 : r.1 with
      | normal => exact .inl rfl
      | exit i => exact absurd hr1 (h1 i)
      | ret => exact .inr rfl
  · exact Yl.no
end
end X
end Go.Proofs.YtdbchpoaoghgpaaGreatDoor
