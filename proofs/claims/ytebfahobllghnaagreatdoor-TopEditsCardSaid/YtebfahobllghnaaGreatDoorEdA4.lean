/-
  TopEdits: VH, VI, VJ.
-/
import Derived.Test.YtebfahobllghnaaGreatDoorEdA3
set_option linter.unusedSimpArgs false
set_option linter.unusedVariables false
namespace Go.Proofs.YtebfahobllghnaaGreatDoor
namespace X
open Go.RowKit B
def Yl {α : Type} (F : (α → Bool) → Bool) (Φ : α → Prop) : Prop := ∀ K, F K = true → ∃ x, Φ x ∧ K x = true ∧ ∀ K', F K' = true → K' x = true
theorem Yl.no {α : Type} {Φ : α → Prop} : Yl (fun _ => false) Φ := fun _ h => by cases h
theorem Yl.pure {α : Type} {Φ : α → Prop} (x : α) (h : Φ x) : Yl (fun K => K x) Φ := fun _ hk => ⟨x, h, hk, fun _ h => h⟩
theorem Yl.bind {α β : Type} {F : (α → Bool) → Bool} {G : α → (β → Bool) → Bool} {Φ : α → Prop} {Ψ : β → Prop} (h : Yl F Φ) (hg : ∀ x, Φ x → Yl (G x) Ψ) : Yl (fun K => F fun x => G x K) Ψ := fun K hk => by
  obtain ⟨x, h1, h2, h3⟩ := h _ hk
  obtain ⟨y, g1, g2, g3⟩ := hg x h1 K h2
  exact ⟨y, g1, g2, fun K' hk' => g3 K' (h3 _ hk')⟩
theorem Yl.bind2 {α β γ : Type} {F : (α → β → Bool) → Bool} {G : α → β → (γ → Bool) → Bool} {Φ : α × β → Prop} {Ψ : γ → Prop} (h : Yl (fun K => F fun a b => K (a, b)) Φ) (hg : ∀ a b, Φ (a, b) → Yl (G a b) Ψ) : Yl (fun K => F fun a b => G a b K) Ψ := fun K hk => by
  obtain ⟨⟨a, b⟩, h1, h2, h3⟩ := h (fun r => G r.1 r.2 K) hk
  obtain ⟨y, g1, g2, g3⟩ := hg a b h1 K h2
  exact ⟨y, g1, g2, fun K' hk' => g3 K' (h3 (fun r => G r.1 r.2 K') hk')⟩
theorem Yl.bind3 {α β γ δ : Type} {F : (α → β → γ → Bool) → Bool} {G : α → β → γ → (δ → Bool) → Bool} {Φ : α × β × γ → Prop} {Ψ : δ → Prop} (h : Yl (fun K => F fun a b c => K (a, b, c)) Φ) (hg : ∀ a b c, Φ (a, b, c) → Yl (G a b c) Ψ) : Yl (fun K => F fun a b c => G a b c K) Ψ := fun K hk => by
  obtain ⟨⟨a, b, c⟩, h1, h2, h3⟩ := h (fun r => G r.1 r.2.1 r.2.2 K) hk
  obtain ⟨y, g1, g2, g3⟩ := hg a b c h1 K h2
  exact ⟨y, g1, g2, fun K' hk' => g3 K' (h3 (fun r => G r.1 r.2.1 r.2.2 K') hk')⟩
theorem Yl.map {α β : Type} {F : (α → Bool) → Bool} {Φ : α → Prop} {Ψ : β → Prop} (g : α → β) (h : Yl F Φ) (hg : ∀ x, Φ x → Ψ (g x)) : Yl (fun K => F fun x => K (g x)) Ψ := fun K hk => by
  obtain ⟨x, h1, h2, h3⟩ := h _ hk
  exact ⟨g x, hg x h1, h2, fun K' hk' => h3 _ hk'⟩
theorem Yl.mono {α : Type} {F : (α → Bool) → Bool} {Φ Ψ : α → Prop} (h : Yl F Φ) (hm : ∀ x, Φ x → Ψ x) : Yl F Ψ := fun K hk => by
  obtain ⟨x, h1, h2⟩ := h K hk
  exact ⟨x, hm x h1, h2⟩
theorem Yl.of {α : Type} {F : (α → Bool) → Bool} {Φ : α → Prop} (h : ∀ K, F K = true → Yl F Φ) : Yl F Φ := fun K hk => h K hk K hk
theorem ikEq_iff {k l : IntKind} : ikEq k l = true ↔ k = l := by cases k <;> cases l <;> simp [ikEq]
theorem frc_yl {n : Int} : Yl (frc n) (fun x => x = n) := by
  unfold frc
  split
  · split
    · exact Yl.pure _ rfl
    · exact Yl.pure _ rfl
  · split
    · exact Yl.pure _ rfl
    · exact Yl.pure _ rfl
theorem frn_yl {n : Nat} : Yl (frn n) (fun x => x = n) := by
  unfold frn
  split
  · exact Yl.pure _ rfl
  · exact Yl.pure _ rfl
theorem leI_eq (p q : Int) : leI p q = decide (p ≤ q) := by
  cases p <;> cases q <;> simp only [leI] <;> rw [Bool.eq_iff_iff] <;> simp [Nat.ble_eq] <;> omega
theorem eqI_eq (p q : Int) : eqI p q = decide (p = q) := by
  cases p <;> cases q <;> simp only [eqI] <;> rw [Bool.eq_iff_iff] <;> simp [Nat.beq_eq] <;> omega
theorem leI_iff {p q : Int} : leI p q = true ↔ p ≤ q := by simp [leI_eq]
theorem eqI_iff {p q : Int} : eqI p q = true ↔ p = q := by simp [eqI_eq]
section
variable {ρ : Rho}
theorem put1_den {i : Nat} {a : Int} : ∀ {m : List (Nat × Int)}, dts ρ (addT.put1 i a m) = a * ρ.at i + dts ρ m
  | [] => by simp [addT.put1, dts]
  | (j, b) :: m => by
    simp only [addT.put1]
    split
    · rename_i h
      have := Nat.eq_of_beq_eq_true h
      subst this
      split
      · rename_i h2
        have h3 := eqI_iff.1 h2
        simp only [dts]
        have : a * ρ.at i + b * ρ.at i = 0 := by rw [← Int.add_mul, h3, Int.zero_mul]
        omega
      · simp only [dts, Int.add_mul]; omega
    · split
      · simp only [dts]
      · simp only [dts, put1_den (m := m)]; omega
theorem addT_den : ∀ {l m : List (Nat × Int)}, dts ρ (addT l m) = dts ρ l + dts ρ m
  | [], m => by simp [addT, dts]
  | (i, a) :: l, m => by simp only [addT, put1_den, addT_den (l := l), dts]; omega
theorem mulT_den {k : Int} : ∀ {l : List (Nat × Int)}, dts ρ (mulT k l) = k * dts ρ l
  | [] => by simp [mulT, dts]
  | (i, a) :: l => by simp only [mulT, dts, mulT_den (l := l), Int.mul_add, Int.mul_assoc]
theorem add_den {a b : Lin} : (a.add b).den ρ = a.den ρ + b.den ρ := by
  cases a; cases b; simp only [Lin.add, Lin.den, addT_den]; omega
theorem mul_den {k : Int} {a : Lin} : (a.mul k).den ρ = k * a.den ρ := by
  cases a; simp only [Lin.mul, Lin.den, mulT_den, Int.mul_add]
theorem sub_den {a b : Lin} : (a.sub b).den ρ = a.den ρ - b.den ρ := by
  simp only [Lin.sub, add_den, mul_den]; omega
theorem not_den {e : Lin} : e.not.den ρ = -1 - e.den ρ := by
  simp only [Lin.not, add_den, mul_den]; simp only [Lin.den, dts]; omega
theorem const_den {c : Int} : (Lin.mk c []).den ρ = c := by simp [Lin.den, dts]
theorem comb1_sat {a : Int} {p : Lin} {i : Nat} (ha : 0 ≤ a) (hp : 0 ≤ p.den ρ) : ∀ {l : List Lin}, Sat ρ l → Sat ρ (comb1 a p i l)
  | [], _ => by simp [comb1, Sat]
  | q :: l, h => by
    have ih := comb1_sat (a := a) (p := p) (i := i) ha hp (l := l) fun e he => h e (by simp [he])
    simp only [comb1]
    split
    · exact ih
    · rename_i hq
      intro e he
      rcases List.mem_cons.1 he with rfl | he
      · have hq' : ¬ 0 ≤ q.coef i := fun h => by rw [leI_iff.2 h] at hq; cases hq
        rw [add_den, mul_den, mul_den]
        have h1 : 0 ≤ -(q.coef i) * p.den ρ := Int.mul_nonneg (by omega) hp
        have h2 : 0 ≤ a * q.den ρ := Int.mul_nonneg ha (h q (by simp))
        omega
      · exact ih e he
theorem combs_sat {i : Nat} {all : List Lin} (hall : Sat ρ all) : ∀ {l : List Lin}, Sat ρ l → Sat ρ (combs i all l)
  | [], _ => by simp [combs, Sat]
  | p :: l, h => by
    have ih := combs_sat (i := i) hall (l := l) fun e he => h e (by simp [he])
    simp only [combs]
    split
    · exact ih
    · rename_i hp
      have hp' : ¬ p.coef i ≤ 0 := fun h => by rw [leI_iff.2 h] at hp; cases hp
      intro e he
      rcases List.mem_append.1 he with he | he
      · exact comb1_sat (by omega) (h p (by simp)) hall e he
      · exact ih e he
theorem without_sat {i : Nat} : ∀ {l : List Lin}, Sat ρ l → Sat ρ (without i l)
  | [], _ => by simp [without, Sat]
  | p :: l, h => by
    have ih := without_sat (i := i) (l := l) fun e he => h e (by simp [he])
    simp only [without]
    split
    · intro e he
      rcases List.mem_cons.1 he with rfl | he
      · exact h e (by simp)
      · exact ih e he
    · exact ih
theorem absurdL_no : ∀ {l : List Lin}, absurdL l = true → ¬ Sat ρ l
  | [], h => by cases h
  | .mk c [] :: l, h => by
    simp only [absurdL] at h
    split at h
    · exact fun hs => absurdL_no h fun e he => hs e (by simp [he])
    · rename_i hc
      intro hs
      have := hs _ (List.mem_cons_self)
      rw [const_den] at this
      rw [leI_iff.2 this] at hc; cases hc
  | .mk c (t :: ts) :: l, h => by
    simp only [absurdL] at h
    exact fun hs => absurdL_no h fun e he => hs e (by simp [he])
theorem fm_no : ∀ {f : Nat} {l : List Lin}, fm f l = true → ¬ Sat ρ l
  | 0, l, h => absurdL_no h
  | f + 1, l, h => by
    simp only [fm] at h
    split at h
    · rename_i ha; exact absurdL_no ha
    · split at h
      · cases h
      · intro hs
        refine fm_no h fun e he => ?_
        rcases List.mem_append.1 he with he | he
        · exact combs_sat hs hs e he
        · exact without_sat hs e he
theorem quickT_ok : ∀ {l : List (Nat × Int)}, quickT l = true → 0 ≤ dts ρ l
  | [], _ => Int.le_refl _
  | (i, a) :: l, h => by
    simp only [quickT] at h
    split at h
    · rename_i hc
      simp only [Bool.and_eq_true, Nat.beq_eq, leI_iff] at hc
      have ih := quickT_ok h
      have hi : i % 4 = 1 := hc.1
      obtain ⟨j, rfl⟩ : ∃ j, i = 4 * j + 1 := ⟨i / 4, by omega⟩
      have := Int.mul_nonneg hc.2 (show 0 ≤ ρ.at (4 * j + 1) by rw [Rho.at_l]; omega)
      simp only [dts]
      omega
    · cases h
theorem quick_ok {e : Lin} (h : quick e = true) : 0 ≤ e.den ρ := by
  cases e with
  | mk c l =>
    simp only [quick, Bool.and_eq_true, leI_iff] at h
    have := quickT_ok (ρ := ρ) h.2
    simp only [Lin.den]
    omega
theorem gpCon_ok {p : Lin → Bool} {e : Lin} (hp : ∀ x, p x = true → 0 ≤ x.den ρ) : ∀ {l : PC}, Sat ρ l → gpCon p e l = true → 0 ≤ e.den ρ
  | [], _, h => by cases h
  | f :: l, hs, h => by
    simp only [gpCon] at h
    split at h
    · rename_i hq
      split at hq
      · have h1 := hp _ hq
        have h2 := hs f (List.mem_cons_self)
        rw [sub_den] at h1
        omega
      · cases hq
    · exact gpCon_ok hp (fun x hx => hs x (List.mem_cons_of_mem _ hx)) h
theorem gpAny_ok {p : Lin → Bool} {i : Nat} {a : Int} {e : Lin} (hp : ∀ x, p x = true → 0 ≤ x.den ρ) : ∀ {l : PC}, Sat ρ l → gpAny p i a e l = true → 0 ≤ e.den ρ
  | [], _, h => by cases h
  | f :: l, hs, h => by
    have h2 := hs f (List.mem_cons_self)
    simp only [gpAny] at h
    split at h
    · rename_i hq
      split at hq
      · cases hq
      · rename_i k _
        split at hq
        · have h1 := hp _ hq
          rw [sub_den, mul_den] at h1
          have h3 : 0 ≤ (Int.ofNat (Nat.succ k)) * f.den ρ := Int.mul_nonneg (by show (0 : Int) ≤ ((k + 1 : Nat) : Int); omega) h2
          omega
        · cases hq
    · exact gpAny_ok hp (fun x hx => hs x (List.mem_cons_of_mem _ hx)) h
theorem oneF_mem {i : Nat} {a : Int} {f : Lin} {k : Nat} : ∀ {l : PC}, oneF i a l = some (f, k) → f ∈ l
  | [], h => by cases h
  | x :: l, h => by
    unfold oneF at h
    split at h
    · cases h
    · rename_i hx
      cases hx
      split at h
      · split at h
        · exact List.mem_cons_of_mem _ (oneF_mem h)
        · cases h; exact List.mem_cons_self
      · exact List.mem_cons_of_mem _ (oneF_mem h)
    · rename_i hx
      cases hx
      exact List.mem_cons_of_mem _ (oneF_mem h)
theorem lowT_ok {pc : PC} (hs : Sat ρ pc) : ∀ {l : List (Nat × Int)} {e : Lin}, 0 ≤ (lowT pc l e).den ρ → 0 ≤ e.den ρ
  | [], e, h => h
  | (i, a) :: l, e, h => by
    simp only [lowT] at h
    split at h
    · rename_i f k hf
      have h1 := lowT_ok hs h
      have h2 := hs f (oneF_mem hf)
      rw [sub_den, mul_den] at h1
      have h3 : (0 : Int) ≤ (Int.ofNat k) * f.den ρ := Int.mul_nonneg (Int.natCast_nonneg k) h2
      omega
    · exact lowT_ok hs h
theorem lowB_ok {pc : PC} (hs : Sat ρ pc) {e : Lin} (h : lowB pc e = true) : 0 ≤ e.den ρ := by
  unfold lowB at h
  exact lowT_ok hs (quick_ok h)
theorem gp_ok {pc : PC} (hs : Sat ρ pc) : ∀ {d : Nat} {e : Lin}, gp pc d e = true → 0 ≤ e.den ρ
  | 0, e, h => quick_ok h
  | d + 1, e, h => by
    simp only [gp] at h
    split at h
    · rename_i hq; exact quick_ok hq
    · split at h
      · exact gpAny_ok (fun x hx => gp_ok hs hx) hs h
      · split at h
        · refine gpCon_ok (fun x hx => ?_) hs h
          split at hx
          · rename_i hq; exact quick_ok hq
          · exact gpCon_ok (fun y hy => quick_ok hy) hs hx
        · split at h
          · rename_i hl; exact lowB_ok hs hl
          · exact gpCon_ok (fun y hy => quick_ok hy) hs h
theorem gpNeg_ok {p : Lin → Bool} {e : Lin} (hp : ∀ x, p x = true → 0 ≤ x.den ρ) : ∀ {l : PC}, Sat ρ l → gpNeg p e l = true → 0 ≤ e.den ρ
  | [], _, h => by cases h
  | f :: l, hs, h => by
    have h2 := hs f (List.mem_cons_self)
    simp only [gpNeg] at h
    split at h
    · rename_i hq
      split at hq
      · have h1 := hp _ hq
        rw [sub_den] at h1
        omega
      · cases hq
    · exact gpNeg_ok hp (fun x hx => hs x (List.mem_cons_of_mem _ hx)) h
theorem gpN_ok {pc : PC} (hs : Sat ρ pc) {e : Lin} (h : gpN pc e = true) : 0 ≤ e.den ρ := by
  unfold gpN at h
  split at h
  · split at h
    · exact gpNeg_ok (fun x hx => gp_ok hs hx) hs h
    · cases h
  · cases h
theorem oneP_ok {e : Lin} : ∀ {l : PC}, Sat ρ l → oneP e l = true → 0 ≤ e.den ρ
  | [], _, h => by cases h
  | f :: l, hs, h => by
    have h2 := hs f (List.mem_cons_self)
    simp only [oneP] at h
    split at h
    · rename_i hq
      have h1 := quick_ok (ρ := ρ) hq
      rw [sub_den] at h1
      omega
    · exact oneP_ok (fun x hx => hs x (List.mem_cons_of_mem _ hx)) h
theorem cheap_ok {pc : PC} {e : Lin} (h : cheap pc e = true) (hs : Sat ρ pc) : 0 ≤ e.den ρ := by
  unfold cheap at h
  split at h
  · rename_i hb; exact oneP_ok hs hb
  · exact lowB_ok hs h
theorem proves2_ok {pc : PC} {e : Lin} (h : proves2 pc e = true) (hs : Sat ρ pc) : 0 ≤ e.den ρ := by
  unfold proves2 at h
  split at h
  · rename_i hg; exact gp_ok hs hg
  split at h
  · rename_i hg; exact gpN_ok hs hg
  · split at h
    · refine Classical.byContradiction fun hn => fm_no (ρ := ρ) h fun x hx => ?_
      rcases List.mem_cons.1 hx with rfl | hx
      · rw [not_den]; omega
      · exact hs x hx
    · cases h
theorem proves_ok {pc : PC} {e : Lin} (h : proves pc e = true) (hs : Sat ρ pc) : 0 ≤ e.den ρ := by
  unfold proves at h
  split at h
  · rename_i hc; exact cheap_ok hc hs
  · exact proves2_ok h hs
theorem Sat.cons {pc : PC} {e : Lin} (h : Sat ρ pc) (he : 0 ≤ e.den ρ) : Sat ρ (e :: pc) := fun x hx => by
  rcases List.mem_cons.1 hx with rfl | hx
  · exact he
  · exact h x hx
theorem dec2_yl {pc : PC} {e : Lin} (hs : Sat ρ pc) : Yl (fun K => dec2 pc e fun b pc => K (b, pc)) fun r => r.1 = decide (0 ≤ e.den ρ) ∧ Sat ρ r.2 := by
  unfold dec2
  split
  · exact Yl.pure (_, _) ⟨by rw [leI_eq, const_den], hs⟩
  split
  · rename_i h
    exact Yl.pure (_, _) ⟨by simp [cheap_ok h hs], hs⟩
  split
  · rename_i h
    have := cheap_ok h hs
    rw [not_den] at this
    exact Yl.pure (_, _) ⟨by simp; omega, hs⟩
  · split
    · rename_i h
      exact Yl.pure (_, _) ⟨by simp [proves2_ok h hs], hs⟩
    · split
      · rename_i h
        have := proves2_ok h hs
        rw [not_den] at this
        exact Yl.pure (_, _) ⟨by simp; omega, hs⟩
      · intro K hk
        simp only [Bool.and_eq_true] at hk
        by_cases h : 0 ≤ e.den ρ
        · exact ⟨(true, e :: pc), ⟨by simp [h], hs.cons h⟩, hk.1, fun K' hk' => by simp only [Bool.and_eq_true] at hk'; exact hk'.1⟩
        · exact ⟨(false, e.not :: pc), ⟨by simp; omega, hs.cons (by rw [not_den]; omega)⟩, hk.2, fun K' hk' => by simp only [Bool.and_eq_true] at hk'; exact hk'.2⟩
theorem svx_den {θ : Th} {k : IntKind} {e : Lin} : den ρ θ (svx k e) = some (.int k (e.den ρ)) := by
  unfold svx
  split
  · simp [den, const_den]
  · simp [den]
theorem denS_nil : denS ρ [] = [] := rfl
theorem denS_cons {p : Pc} {l : Str} : denS ρ (p :: l) = p.den ρ ++ denS ρ l := by simp [denS]
theorem denS_app {l m : Str} : denS ρ (l ++ m) = denS ρ l ++ denS ρ m := by simp [denS]
theorem lenS_den : ∀ {l : Str}, (lenS l).den ρ = ((denS ρ l).length : Int)
  | [] => by simp [lenS, denS, Lin.den, dts]
  | .c n :: l => by rw [lenS, add_den, lenS_den (l := l), denS_cons]; simp [Lin.den, dts, Pc.den]; omega
  | .a i :: l => by
    rw [lenS, add_den, lenS_den (l := l), denS_cons]
    simp only [Lin.den, dts, Rho.at_l, Pc.den]
    simp
theorem lenN_den : ∀ {l : Str} {n k : Nat}, lenN l n = some k → k = n + (denS ρ l).length
  | [], n, k, h => by simp [lenN] at h; simp [denS, h]
  | .c a :: l, n, k, h => by
    simp only [lenN] at h
    have := lenN_den h
    rw [this, denS_cons]; simp [Pc.den]; omega
  | .a i :: l, n, k, h => by simp [lenN] at h
theorem eqStr_ok : ∀ {a b : Str}, eqStr a b = true → a = b
  | [], [], _ => rfl
  | x :: l, y :: m, h => by
    simp only [eqStr] at h
    split at h
    · rename_i hp
      have : x = y := by
        cases x <;> cases y <;> simp only [eqP, Bool.false_eq_true] at hp
        · rw [Nat.eq_of_beq_eq_true hp]
        · rw [Nat.eq_of_beq_eq_true hp]
      rw [this, eqStr_ok h]
    · cases h
  | [], _ :: _, h => by simp [eqStr] at h
  | _ :: _, [], h => by simp [eqStr] at h
theorem known_ne : ∀ {a b : Str}, knownS a = true → knownS b = true → denS ρ a = denS ρ b → eqStr a b = true
  | [], [], _, _, _ => rfl
  | .c x :: l, .c y :: m, ha, hb, h => by
    simp only [knownS] at ha hb
    split at ha
    · rename_i h1
      split at hb
      · rename_i h2
        rw [denS_cons, denS_cons] at h
        simp only [Pc.den, List.cons_append, List.nil_append, List.cons.injEq] at h
        have e : x = y := by
          have h3 := congrArg UInt8.toNat h.1
          have := Nat.le_of_ble_eq_true h1
          have := Nat.le_of_ble_eq_true h2
          simp at h3
          omega
        subst e
        simp [eqStr, eqP, known_ne ha hb h.2]
      · cases hb
    · cases ha
  | [], .c y :: m, _, _, h => by rw [denS_cons] at h; simp [Pc.den, denS] at h
  | .c x :: l, [], _, _, h => by rw [denS_cons] at h; simp [Pc.den, denS] at h
  | .a i :: l, _, ha, _, _ => by simp [knownS] at ha
  | _, .a i :: l, _, hb, _ => by simp [knownS] at hb
theorem stripS_yl : ∀ {a b : Str}, Yl (fun K => stripS a b fun l m => K (l, m)) fun r => (denS ρ a = denS ρ b ↔ denS ρ r.1 = denS ρ r.2)
  | a :: l, b :: m => by
    simp only [stripS]
    split
    · rename_i h
      have : a = b := by cases a <;> cases b <;> simp [eqP] at h <;> rw [h]
      subst this
      refine Yl.mono (stripS_yl (a := l) (b := m)) fun r hr => ?_
      rw [denS_cons, denS_cons, List.append_cancel_left_eq]; exact hr
    · exact Yl.pure (_, _) Iff.rfl
  | [], m => by
    have : (fun K : Str × Str → Bool => stripS [] m fun l m => K (l, m)) = fun K => K ([], m) := by funext K; rfl
    rw [this]; exact Yl.pure (_, _) Iff.rfl
  | a :: l, [] => by
    have : (fun K : Str × Str → Bool => stripS (a :: l) [] fun l m => K (l, m)) = fun K => K (a :: l, []) := by funext K; rfl
    rw [this]; exact Yl.pure (_, _) Iff.rfl
theorem notB_ok {pc : PC} (hs : Sat ρ pc) {i n : Nat} (h : notB pc i n = true) : ρ.s i ≠ [UInt8.ofNat n] := by
  simp only [notB, Bool.and_eq_true, Nat.blt_eq] at h
  intro e
  have h1 := proves_ok h.2 hs
  have h2 := ρ.at_e i n h.1.1 (by have := Nat.le_of_ble_eq_true h.1.2; omega)
  rw [if_pos e] at h2
  have h3 : (Lin.mk 0 [(8 * (i + 16 * n) + 7, -1)]).den ρ = -1 * ρ.at (8 * (i + 16 * n) + 7) := by simp only [Lin.den, dts]; omega
  have h4 : 0 ≤ (Lin.mk 0 [(8 * (i + 16 * n) + 7, -1)]).den ρ := h1
  omega
theorem eqS2_yl {pc : PC} {a b : Str} (hs : Sat ρ pc) : Yl (eqS2 pc a b) fun r => r = decide (denS ρ a = denS ρ b) := by
  unfold eqS2
  refine Yl.bind2 (stripS_yl (ρ := ρ)) fun l m hr => ?_
  simp only at hr
  split
  · rename_i i t n u
    split
    · rename_i h
      simp only [Bool.and_eq_true] at h
      have h1 := eqStr_ok h.1
      subst h1
      have h2 := notB_ok hs h.2
      refine Yl.pure false ?_
      rw [denS_cons, denS_cons, List.append_cancel_right_eq] at hr
      have : ¬ denS ρ a = denS ρ b := fun e => h2 (hr.1 e)
      simp [this]
    · exact Yl.no
  · rename_i n t i u
    split
    · rename_i h
      simp only [Bool.and_eq_true] at h
      have h1 := eqStr_ok h.1
      subst h1
      have h2 := notB_ok hs h.2
      refine Yl.pure false ?_
      rw [denS_cons, denS_cons, List.append_cancel_right_eq] at hr
      have : ¬ denS ρ a = denS ρ b := fun e => h2 (hr.1 e).symm
      simp [this]
    · exact Yl.no
  · exact Yl.no
theorem eqS_yl {pc : PC} {a b : Str} (hs : Sat ρ pc) : Yl (eqS pc a b) fun r => r = decide (denS ρ a = denS ρ b) := by
  unfold eqS
  split
  · rename_i h
    exact Yl.pure _ (by simp [eqStr_ok h])
  · rename_i hne
    split
    · rename_i h
      simp only [Bool.and_eq_true] at h
      refine Yl.pure _ ?_
      have : ¬ denS ρ a = denS ρ b := fun e => by rw [known_ne h.1 h.2 e] at hne; cases hne
      simp [this]
    · split
      · rename_i h
        have h1 := proves_ok h hs
        rw [not_den, sub_den, lenS_den, lenS_den] at h1
        refine Yl.pure _ ?_
        have : ¬ denS ρ a = denS ρ b := fun e => by rw [e] at h1; omega
        simp [this]
      · split
        · rename_i h
          have h1 := proves_ok h hs
          rw [not_den, sub_den, lenS_den, lenS_den] at h1
          refine Yl.pure _ ?_
          have : ¬ denS ρ a = denS ρ b := fun e => by rw [e] at h1; omega
          simp [this]
        · exact eqS2_yl hs
theorem len0 {pc : PC} {a : Str} (hs : Sat ρ pc) : Yl (fun K => dec2 pc ((lenS a).mul (-1)) fun b pc => K (b, pc)) fun r => r.1 = decide (denS ρ a = []) ∧ Sat ρ r.2 := by
  refine Yl.mono (dec2_yl hs) fun r hr => ⟨?_, hr.2⟩
  rw [hr.1, mul_den, lenS_den, decide_eq_decide]
  constructor
  · intro h; exact List.eq_nil_of_length_eq_zero (by omega)
  · intro h; rw [h]; simp
theorem stripP_ok : ∀ {a b : Str}, (denS ρ a = denS ρ b ↔ denS ρ (stripP a b).1 = denS ρ (stripP a b).2)
  | a :: l, b :: m => by
    simp only [stripP]
    split
    · rename_i h
      have : a = b := by cases a <;> cases b <;> simp [eqP] at h <;> rw [h]
      subst this
      rw [denS_cons, denS_cons, List.append_cancel_left_eq]
      exact stripP_ok
    · exact Iff.rfl
  | [], m => by simp [stripP]
  | a :: l, [] => by simp [stripP]
theorem dec3_yl {pc f : PC} {e : Lin} (hs : Sat ρ pc) (hf : 0 ≤ e.den ρ → Sat ρ f) : Yl (fun K => dec3 pc e f fun b pc => K (b, pc)) fun r => r.1 = decide (0 ≤ e.den ρ) ∧ Sat ρ r.2 := by
  have app : 0 ≤ e.den ρ → Sat ρ (f ++ pc) := fun he x hx => by
    rcases List.mem_append.1 hx with h | h
    · exact hf he x h
    · exact hs x h
  intro K hk
  unfold dec3 at hk ⊢
  split at hk
  · rename_i h
    have h1 := proves_ok h hs
    exact ⟨(true, f ++ pc), ⟨by simp [h1], app h1⟩, hk, fun K' h' => by simpa only [h] using h'⟩
  · rename_i h
    split at hk
    · rename_i h2
      have h1 := proves_ok h2 hs
      rw [not_den] at h1
      exact ⟨(false, pc), ⟨by simp; omega, hs⟩, hk, fun K' h' => by simpa only [h, h2] using h'⟩
    · rename_i h2
      simp only [Bool.and_eq_true] at hk
      by_cases he : 0 ≤ e.den ρ
      · exact ⟨(true, e :: (f ++ pc)), ⟨by simp [he], (app he).cons he⟩, hk.1, fun K' h' => by simp only [h, h2, Bool.and_eq_true] at h'; exact h'.1⟩
      · exact ⟨(false, e.not :: pc), ⟨by simp; omega, hs.cons (by rw [not_den]; omega)⟩, hk.2, fun K' h' => by simp only [h, h2, Bool.and_eq_true] at h'; exact h'.2⟩
theorem eqLen_ok {i : Nat} {n : Nat} (h : ρ.s i = [UInt8.ofNat n]) : Sat ρ (eqLen i) := fun e he => by
  have hl := ρ.at_l i
  rw [h] at hl
  simp only [List.length_cons, List.length_nil] at hl
  rcases List.mem_cons.1 he with rfl | he
  · simp only [Lin.den, dts]; omega
  · rcases List.mem_cons.1 he with rfl | he
    · simp only [Lin.den, dts]; omega
    · cases he
theorem oneB_ok {a b : Str} {e : Lin} {i : Nat} (h : oneB a b = some (e, i)) : (0 ≤ e.den ρ ↔ denS ρ a = denS ρ b) ∧ (0 ≤ e.den ρ → Sat ρ (eqLen i)) := by
  have key : ∀ (i n : Nat), i < 16 → n < 256 → (0 ≤ (Lin.mk (-1) [(8 * (i + 16 * n) + 7, 1)]).den ρ ↔ ρ.s i = [UInt8.ofNat n]) := fun i n hi hn => by
    have h2 := ρ.at_e i n hi hn
    have h3 : (Lin.mk (-1) [(8 * (i + 16 * n) + 7, 1)]).den ρ = -1 + ρ.at (8 * (i + 16 * n) + 7) := by simp only [Lin.den, dts]; omega
    rw [h3, h2]
    split
    · rename_i h; simp [h]
    · rename_i h; simp [h]
  unfold oneB at h
  split at h
  · cases h
  · have hr := stripP_ok (ρ := ρ) (a := a) (b := b)
    split at h
    · rename_i i t n u hq
      split at h
      · rename_i hc
        simp only [Bool.and_eq_true, Nat.blt_eq] at hc
        cases h
        have h1 := eqStr_ok hc.1.1
        subst h1
        rw [hq] at hr
        simp only at hr
        rw [denS_cons, denS_cons, List.append_cancel_right_eq] at hr
        exact ⟨(key i n hc.1.2 (by have := Nat.le_of_ble_eq_true hc.2; omega)).trans hr.symm, fun h => eqLen_ok ((key i n hc.1.2 (by have := Nat.le_of_ble_eq_true hc.2; omega)).1 h)⟩
      · cases h
    · rename_i n u i t hq
      split at h
      · rename_i hc
        simp only [Bool.and_eq_true, Nat.blt_eq] at hc
        cases h
        have h1 := eqStr_ok hc.1.1
        subst h1
        rw [hq] at hr
        simp only at hr
        rw [denS_cons, denS_cons, List.append_cancel_right_eq] at hr
        exact ⟨(key i n hc.1.2 (by have := Nat.le_of_ble_eq_true hc.2; omega)).trans ⟨fun h => hr.2 h.symm, fun h => (hr.1 h).symm⟩, fun h => eqLen_ok ((key i n hc.1.2 (by have := Nat.le_of_ble_eq_true hc.2; omega)).1 h)⟩
      · cases h
    · cases h
theorem twoA_ok {a b : Str} {e : Lin} {f : PC} (h : twoA a b = some (e, f)) : (0 ≤ e.den ρ ↔ denS ρ a = denS ρ b) ∧ (0 ≤ e.den ρ → Sat ρ f) := by
  unfold twoA at h
  have hr := stripP_ok (ρ := ρ) (a := a) (b := b)
  split at h
  · rename_i i t k u hq
    split at h
    · rename_i hc
      simp only [Bool.and_eq_true, Nat.blt_eq] at hc
      cases h
      have h1 := eqStr_ok hc.1
      subst h1
      rw [hq] at hr
      simp only at hr
      rw [denS_cons, denS_cons, List.append_cancel_right_eq] at hr
      have h2 := ρ.at_q i k hc.2
      have h3 : (Lin.mk (-1) [(8 * (i + 16 * (256 + k)) + 7, 1)]).den ρ = -1 + ρ.at (8 * (i + 16 * (256 + k)) + 7) := by simp only [Lin.den, dts]; omega
      have hd : ∀ i, denS ρ [.a i] = ρ.s i := fun i => by simp [denS, Pc.den]
      have key : 0 ≤ (Lin.mk (-1) [(8 * (i + 16 * (256 + k)) + 7, 1)]).den ρ ↔ ρ.s i = ρ.s k := by
        rw [h3, h2]
        split
        · rename_i h; simp [h]
        · rename_i h; simp [h]
      refine ⟨key.trans hr.symm, fun hq e he => ?_⟩
      have hs := key.1 hq
      have hl := congrArg List.length hs
      rcases List.mem_cons.1 he with rfl | he
      · rw [sub_den, lenS_den, lenS_den, hd, hd]; omega
      · rcases List.mem_cons.1 he with rfl | he
        · rw [sub_den, lenS_den, lenS_den, hd, hd]; omega
        · cases he
    · cases h
  · cases h
theorem twoB_ok {a b : Str} {e : Lin} {f : PC} (h : twoB a b = some (e, f)) : (0 ≤ e.den ρ ↔ denS ρ a = denS ρ b) ∧ (0 ≤ e.den ρ → Sat ρ f) := by
  unfold twoB at h
  split at h
  · cases h
  · exact twoA_ok h
theorem eqSK_yl {pc : PC} {a b : Str} (hs : Sat ρ pc) : Yl (fun K => eqSK pc a b fun b pc => K (b, pc)) fun r => r.1 = decide (denS ρ a = denS ρ b) ∧ Sat ρ r.2 := by
  have one : ∀ a b, Yl (fun K : Bool × PC → Bool => eqS pc a b fun r => K (r, pc)) fun r => r.1 = decide (denS ρ a = denS ρ b) ∧ Sat ρ r.2 := fun a b =>
    Yl.map (fun r : Bool => (r, pc)) (eqS_yl hs) fun r hr => ⟨hr, hs⟩
  unfold eqSK
  split
  · split
    · exact one _ _
    · exact len0 hs
  · split
    · split
      · exact one _ _
      · refine Yl.mono (len0 hs) fun r hr => ⟨?_, hr.2⟩
        rw [hr.1, decide_eq_decide]
        exact ⟨fun h => h.symm, fun h => h.symm⟩
    · split
      · rename_i e i he
        refine Yl.mono (dec3_yl hs (oneB_ok he).2) fun r hr => ⟨?_, hr.2⟩
        rw [hr.1, decide_eq_decide]
        exact (oneB_ok he).1
      · split
        · rename_i e f he
          refine Yl.mono (dec3_yl hs (twoB_ok he).2) fun r hr => ⟨?_, hr.2⟩
          rw [hr.1, decide_eq_decide]
          exact (twoB_ok he).1
        · exact one _ _
theorem cutN_yl : ∀ {l : Str} {n : Nat}, Yl (fun K => cutN l n fun x y => K (x, y)) fun r => l = r.1 ++ r.2 ∧ (denS ρ r.1).length = n
  | l, 0 => by
    have : (fun K => cutN l 0 fun x y => K (x, y)) = fun (K : Str × Str → Bool) => K ([], l) := by funext K; cases l <;> rfl
    rw [this]
    exact Yl.pure (_, _) ⟨rfl, rfl⟩
  | .c a :: l, n + 1 => by
    simp only [cutN]
    have ih := cutN_yl (l := l) (n := n)
    refine Yl.map (fun r : Str × Str => (.c a :: r.1, r.2)) ih fun r hr => ?_
    refine ⟨by simp [hr.1], ?_⟩
    rw [denS_cons]; simp [Pc.den, hr.2]
  | [], n + 1 => Yl.no
  | .a i :: l, n + 1 => Yl.no
theorem zeroL_ok {pc : PC} (hs : Sat ρ pc) {e : Lin} (h : zeroL pc e = true) : e.den ρ = 0 := by
  unfold zeroL at h
  split at h
  · rw [const_den, eqI_iff.1 h]
  · simp only [Bool.and_eq_true] at h
    have h1 := proves_ok h.1 hs
    have h2 := proves_ok h.2 hs
    rw [mul_den] at h1
    omega
theorem cutL_yl {pc : PC} (hs : Sat ρ pc) : ∀ {l : Str} {e : Lin}, Yl (fun K => cutL pc l e fun x y => K (x, y)) fun r => l = r.1 ++ r.2 ∧ ((denS ρ r.1).length : Int) = e.den ρ
  | [], e => by
    simp only [cutL]
    split
    · rename_i h
      exact Yl.pure (_, _) ⟨rfl, by rw [zeroL_ok hs h]; rfl⟩
    · exact Yl.no
  | .c a :: l, e => by
    simp only [cutL]
    split
    · rename_i h
      exact Yl.pure (_, _) ⟨rfl, by rw [zeroL_ok hs h]; rfl⟩
    · have ih := cutL_yl hs (l := l) (e := (Lin.mk (-1) []).add e)
      refine Yl.map (fun r : Str × Str => (.c a :: r.1, r.2)) ih fun r hr => ?_
      refine ⟨by simp [hr.1], ?_⟩
      have := hr.2
      rw [add_den, const_den] at this
      rw [denS_cons]; simp [Pc.den]; omega
  | .a i :: l, e => by
    simp only [cutL]
    split
    · rename_i h
      exact Yl.pure (_, _) ⟨rfl, by rw [zeroL_ok hs h]; rfl⟩
    · have ih := cutL_yl hs (l := l) (e := (e.add (.mk 0 [(4 * i + 1, -1)])))
      refine Yl.map (fun r : Str × Str => (.a i :: r.1, r.2)) ih fun r hr => ?_
      refine ⟨by simp [hr.1], ?_⟩
      have h1 := hr.2
      have h2 := lenS_den (ρ := ρ) (l := [.a i])
      simp only [lenS, add_den] at h2
      simp only [Lin.den, dts, denS_cons, denS_nil, List.append_nil] at h2
      rw [add_den] at h1
      rw [denS_cons, List.length_append]
      simp only [Lin.den, dts] at h1 ⊢
      omega
theorem zero0_ok {e : Lin} (h : zero0 e = true) : e.den ρ = 0 := by
  unfold zero0 at h
  split at h
  · rw [const_den]; exact eqI_iff.1 h
  · cases h
theorem cutE_ok : ∀ {l : Str} {e : Lin} {x y : Str}, cutE l e = some (x, y) → l = x ++ y ∧ ((denS ρ x).length : Int) = e.den ρ
  | [], e, x, y, h => by
    simp only [cutE] at h
    split at h
    · rename_i hz; cases h; exact ⟨rfl, by rw [zero0_ok hz]; rfl⟩
    · cases h
  | .c a :: l, e, x, y, h => by
    simp only [cutE] at h
    split at h
    · rename_i hz; cases h; exact ⟨rfl, by rw [zero0_ok hz]; rfl⟩
    · split at h
      · rename_i u v hu
        cases h
        obtain ⟨h1, h2⟩ := cutE_ok hu
        refine ⟨by simp [h1], ?_⟩
        rw [add_den, const_den] at h2
        rw [denS_cons]; simp [Pc.den]; omega
      · cases h
  | .a i :: l, e, x, y, h => by
    simp only [cutE] at h
    split at h
    · rename_i hz; cases h; exact ⟨rfl, by rw [zero0_ok hz]; rfl⟩
    · split at h
      · rename_i u v hu
        cases h
        obtain ⟨h1, h2⟩ := cutE_ok hu
        refine ⟨by simp [h1], ?_⟩
        have h3 := lenS_den (ρ := ρ) (l := [.a i])
        simp only [lenS, add_den] at h3
        simp only [Lin.den, dts, denS_cons, denS_nil, List.append_nil] at h3
        rw [add_den] at h2
        rw [denS_cons, List.length_append]
        simp only [Lin.den, dts] at h2 ⊢
        omega
      · cases h
theorem cutM_yl {pc : PC} (hs : Sat ρ pc) {l : Str} {e : Lin} : Yl (fun K => cutM pc l e fun x y => K (x, y)) fun r => l = r.1 ++ r.2 ∧ ((denS ρ r.1).length : Int) = e.den ρ := by
  unfold cutM
  split
  · rename_i x y h
    exact Yl.pure (x, y) (cutE_ok h)
  · exact cutL_yl hs
theorem nthS_yl : ∀ {l : Str} {n : Nat}, Yl (nthS l n) fun a => (denS ρ l)[n]? = some (UInt8.ofNat a) ∧ a ≤ 255
  | .c a :: l, 0 => by
    simp only [nthS]
    split
    · rename_i h
      exact Yl.pure _ ⟨by rw [denS_cons]; simp [Pc.den], Nat.le_of_ble_eq_true h⟩
    · exact Yl.no
  | .c a :: l, n + 1 => by
    simp only [nthS]
    exact (nthS_yl (l := l) (n := n)).mono fun x hx => ⟨by rw [denS_cons]; simpa [Pc.den] using hx.1, hx.2⟩
  | [], n => by cases n <;> exact Yl.no
  | .a i :: l, n => by cases n <;> exact Yl.no
theorem appS_yl : ∀ {l m : Str}, Yl (appS l m) fun r => r = l ++ m
  | [], m => Yl.pure _ rfl
  | a :: l, m => by
    simp only [appS]
    exact Yl.bind appS_yl fun r hr => Yl.pure _ (by simp [hr])
end
theorem nthC_yl : ∀ {l : List SV} {i : Nat}, Yl (nthC l i) fun v => l[i]? = some v
  | [], _ => Yl.no
  | a :: l, 0 => Yl.pure a rfl
  | a :: l, i + 1 => nthC_yl (l := l)
theorem takeC_yl : ∀ {l : List SV} {n : Nat}, Yl (takeC l n) fun r => n ≤ l.length ∧ r = l.take n
  | l, 0 => by
    have : takeC l 0 = fun K => K [] := by funext K; cases l <;> rfl
    rw [this]; exact Yl.pure _ ⟨Nat.zero_le _, by simp⟩
  | [], n + 1 => Yl.no
  | a :: l, n + 1 => by
    have : takeC (a :: l) (n + 1) = fun K => takeC l n fun r => K (a :: r) := rfl
    rw [this]
    exact Yl.bind takeC_yl fun r hr => Yl.pure _ ⟨by simp; omega, by simp [hr.2]⟩
theorem dropC_yl : ∀ {l : List SV} {n : Nat}, Yl (dropC l n) fun r => n ≤ l.length ∧ r = l.drop n
  | l, 0 => by
    have : dropC l 0 = fun K => K l := by funext K; cases l <;> rfl
    rw [this]; exact Yl.pure _ ⟨Nat.zero_le _, by simp⟩
  | [], n + 1 => Yl.no
  | a :: l, n + 1 => (dropC_yl (l := l) (n := n)).mono fun r hr => ⟨by simp; omega, by simp [hr.2]⟩
theorem segC_yl {l : List SV} {o n : Nat} : Yl (segC l o n) fun r => o + n ≤ l.length ∧ r = (l.drop o).take n := by
  unfold segC
  refine Yl.bind dropC_yl fun r hr => takeC_yl.mono fun q hq => ?_
  rw [hr.2] at hq
  have := hq.1
  simp at this
  exact ⟨by omega, hq.2⟩
theorem ovrC_yl : ∀ {l vs : List SV}, Yl (ovrC l vs) fun r => vs.length ≤ l.length ∧ r = vs ++ l.drop vs.length
  | l, [] => by
    have : ovrC l [] = fun K => K l := by funext K; cases l <;> rfl
    rw [this]; exact Yl.pure _ ⟨Nat.zero_le _, by simp⟩
  | [], _ :: _ => Yl.no
  | a :: l, v :: vs => by
    have : ovrC (a :: l) (v :: vs) = fun K => ovrC l vs fun r => K (v :: r) := rfl
    rw [this]
    exact Yl.bind ovrC_yl fun r hr => Yl.pure _ ⟨by simp; omega, by simp [hr.2]⟩
theorem setC_yl : ∀ {l : List SV} {o : Nat} {vs : List SV}, Yl (setC l o vs) fun r => o + vs.length ≤ l.length ∧ r = l.take o ++ vs ++ l.drop (o + vs.length)
  | l, 0, vs => by
    have : setC l 0 vs = ovrC l vs := by funext K; cases l <;> rfl
    rw [this]
    exact ovrC_yl.mono fun r hr => ⟨by omega, by simp [hr.2]⟩
  | [], o + 1, vs => Yl.no
  | a :: l, o + 1, vs => by
    have : setC (a :: l) (o + 1) vs = fun K => setC l o vs fun r => K (a :: r) := rfl
    rw [this]
    refine Yl.bind setC_yl fun r hr => Yl.pure _ ⟨by simp; omega, ?_⟩
    rw [show o + 1 + vs.length = o + vs.length + 1 by omega]
    simp [hr.2]
theorem appC_yl : ∀ {l m : List SV}, Yl (appC l m) fun r => r = l ++ m
  | [], m => Yl.pure _ rfl
  | a :: l, m => by
    have : appC (a :: l) m = fun K => appC l m fun r => K (a :: r) := rfl
    rw [this]
    exact Yl.bind appC_yl fun r hr => Yl.pure _ (by simp [hr])
theorem lenC_eq : ∀ {l : List SV} {n : Nat}, lenC l n = n + l.length
  | [], n => rfl
  | a :: l, n => by rw [lenC, lenC_eq (l := l)]; simp; omega
theorem lenC0 {l : List SV} : lenC l 0 = l.length := by rw [lenC_eq]; omega
section
variable {ρ : Rho} {θ : Th}
theorem bstr_data (s : ByteArray) : bstr s.data.toList = s := by cases s; simp [bstr]
theorem denS_bytes : ∀ (l : List UInt8), denS ρ (l.map fun b => .c b.toNat) = l
  | [] => rfl
  | b :: l => by rw [List.map_cons, denS_cons, denS_bytes l]; simp [Pc.den]
theorem strC_yl : ∀ {l : List UInt8}, Yl (strC l) fun r => r = l.map fun b => .c b.toNat
  | [] => Yl.pure _ rfl
  | b :: l => by
    have : strC (b :: l) = fun K => frn b.toNat fun n => strC l fun r => K (.c n :: r) := rfl
    rw [this]
    exact Yl.bind frn_yl fun n hn => Yl.bind strC_yl fun r hr => Yl.pure _ (by simp [hr, hn])
theorem cst_ok {v : Value} {a : SV} (h : cst v = some a) : den ρ θ a = some v := by
  unfold cst at h
  split at h <;> cases h <;> first | rfl | skip
  simp [den, denS_bytes, bstr_data]
theorem cst_one {v : Value} {a : SV} (h : cst v = some a) : v.oneCell' = true ∧ oneV a = true := by
  unfold cst at h
  split at h <;> cases h <;> exact ⟨rfl, rfl⟩
theorem cstL_ok : ∀ {l : List Value} {m : List SV}, cstL l = some m → dens ρ θ m = some l ∧ (∀ v ∈ l, v.oneCell' = true) ∧ m.length = l.length
  | [], m, h => by simp [cstL] at h; subst h; exact ⟨rfl, by simp, rfl⟩
  | v :: l, m, h => by
    simp only [cstL] at h
    split at h
    · cases h
    · rename_i a ha
      split at h
      · cases h
      · rename_i r hr
        simp at h; subst h
        obtain ⟨h1, h2, h3⟩ := cstL_ok hr
        refine ⟨by simp [dens, cst_ok ha, h1], fun u hu => ?_, by simp [h3]⟩
        rcases List.mem_cons.1 hu with rfl | hu
        · exact (cst_one ha).1
        · exact h2 u hu
theorem cstK_yl {v : Value} : Yl (cstK v) fun a => ∀ ρ θ, den ρ θ a = some v := by
  unfold cstK
  split
  · exact Yl.pure _ fun _ _ => rfl
  · split
    · exact Yl.pure _ fun _ _ => rfl
    · exact Yl.pure _ fun _ _ => rfl
  · exact Yl.bind strC_yl fun r hr => Yl.pure _ fun ρ θ => by simp [den, hr, denS_bytes, bstr_data]
  · exact Yl.pure _ fun _ _ => rfl
  · exact Yl.pure _ fun _ _ => rfl
  · exact Yl.pure _ fun _ _ => rfl
  · exact Yl.pure _ fun _ _ => rfl
  · exact Yl.pure _ fun _ _ => rfl
  · split
    · rename_i l hl
      exact Yl.pure _ fun ρ θ => by simp [den, (cstL_ok (ρ := ρ) (θ := θ) hl).1]
    · exact Yl.no
  · exact Yl.no
end
def EvOk (ρ : Rho) (s : Tr SV) (x : Operand) (v : SV) : Prop := ∀ (θ : Th) (a : Act), (∀ k ∈ rdO x, ∀ sv, s.get k = some sv → den ρ θ sv = some (get a k)) → den ρ θ v = some (a.eval x)
def EvsOk (ρ : Rho) (s : Tr SV) (xs : List Operand) (vs : List SV) : Prop := ∀ (θ : Th) (a : Act), (∀ k ∈ rdOs xs, ∀ sv, s.get k = some sv → den ρ θ sv = some (get a k)) → dens ρ θ vs = some (xs.map a.eval)
theorem evO_yl {ρ : Rho} {s : Tr SV} {x : Operand} : Yl (evO s x) (EvOk ρ s x) := by
  unfold evO
  split
  · rename_i t
    split
    · rename_i v hv
      exact Yl.pure v fun θ a h => by simpa [B.eval_tmp] using h t (by simp [rdO]) v hv
    · exact Yl.no
  · exact cstK_yl.mono fun v hv θ a _ => hv ρ θ
  · exact Yl.pure _ fun θ a _ => rfl
  · exact Yl.pure _ fun θ a _ => rfl
theorem evL_yl {ρ : Rho} {s : Tr SV} : ∀ {xs : List Operand}, Yl (evL s xs) (EvsOk ρ s xs)
  | [] => Yl.pure _ fun θ a _ => rfl
  | x :: l => by
    have : evL s (x :: l) = fun K => evO s x fun v => evL s l fun vs => K (v :: vs) := rfl
    rw [this]
    refine Yl.bind (evO_yl (ρ := ρ)) fun v hv => Yl.bind (evL_yl (ρ := ρ)) fun vs hvs => Yl.pure _ fun θ a h => ?_
    simp only [dens, List.map_cons]
    rw [hv θ a fun k hk => h k (by simp [rdOs, hk]), hvs θ a fun k hk => h k (by simp only [rdOs, List.flatMap_cons, List.mem_append]; exact .inr hk)]
    rfl
structure TyOk (P : Program) (t : Nat) (y : Ty) where
  i : TypeInfo
  d : TypeDesc
  z : Value
  hi : P.info? t = some i
  hd : P.underlying t = some d
  hz : i.zero = some z
  sz : y.sz = i.size
  agg : y.agg = isAggD d
  by' : y.by' = i.bytes
  kind : y.kind = tkOf d
  zs : cstL z.cells.toList = some y.zero
  zl : z.cells.size = i.size
  za : isAggV z = isAggD d
theorem mkTy_ok {P : Program} {t : Nat} {y : Ty} (h : mkTy P t = some y) : Nonempty (TyOk P t y) := by
  unfold mkTy at h
  split at h
  · cases h
  · rename_i i hi
    split at h
    · cases h
    · rename_i d hd
      split at h
      · cases h
      · rename_i z hz
        split at h
        · cases h
        · rename_i zs hzs
          split at h
          · rename_i hc
            simp only [Bool.and_eq_true, Nat.beq_eq] at hc
            cases h
            exact ⟨⟨i, d, z, hi, hd, hz, rfl, rfl, rfl, rfl, hzs, hc.1, eq_of_beq hc.2⟩⟩
          · cases h
section
variable {P : Program} {t : Nat} {y : Ty}
theorem TyOk.size (h : TyOk P t y) (w : World) : (sizeOf t).run P w = .ok y.sz w := by simp [sizeOf, typeInfo, h.hi, h.sz]
theorem TyOk.isAgg (h : TyOk P t y) (w : World) : (Go.isAgg t).run P w = .ok y.agg w := by
  unfold Go.isAgg
  rw [Sem.run_bind, run_underlying h.hd, Result.andThen_ok, h.agg]
  unfold isAggD
  cases h.d <;> simp
theorem TyOk.zero (h : TyOk P t y) (w : World) : (zeroValue t).run P w = .ok h.z w := by simp [zeroValue, typeInfo, h.hi, h.hz]
theorem kindT_ok {k : TK} (h : kindT P t = k) (hk : k ≠ .other) : ∃ d, P.underlying t = some d ∧ k = tkOf d := by
  unfold kindT at h
  split at h
  · rename_i y hy
    obtain ⟨q⟩ := mkTy_ok hy
    exact ⟨q.d, q.hd, by rw [← h, q.kind]⟩
  · exact absurd h.symm hk
theorem tk_int {d : TypeDesc} {k : IntKind} (h : TK.int k = tkOf d) : d = .int k := by cases d <;> simp [tkOf] at h; rw [h]
theorem tk_bool {d : TypeDesc} (h : TK.bool = tkOf d) : d = .bool := by cases d <;> simp [tkOf] at h; rfl
theorem tk_str {d : TypeDesc} (h : TK.str = tkOf d) : d = .string := by cases d <;> simp [tkOf] at h; rfl
theorem tk_slice {d : TypeDesc} {e : Nat} (h : TK.slice e = tkOf d) : d = .slice e := by cases d <;> simp [tkOf] at h; rw [h]
theorem tk_ptr {d : TypeDesc} {e : Nat} (h : TK.ptr e = tkOf d) : d = .pointer e := by cases d <;> simp [tkOf] at h; rw [h]
theorem tk_struct {d : TypeDesc} {fs : List (Nat × Nat)} (h : TK.struct fs = tkOf d) : ∃ F : Array Field, d = .struct F ∧ fs = F.toList.map fun f => (f.offset, f.type) := by cases d <;> simp [tkOf] at h; exact ⟨_, rfl, h⟩
theorem tk_arr {d : TypeDesc} {n e : Nat} (h : TK.arr n e = tkOf d) : d = .array n e := by cases d <;> simp [tkOf] at h; rw [h.1, h.2]
theorem tk_map {d : TypeDesc} {k v : Nat} (h : TK.map k v = tkOf d) : d = .map k v := by cases d <;> simp [tkOf] at h; rw [h.1, h.2]
theorem tk_fn {d : TypeDesc} (h : TK.fn = tkOf d) : ∃ a b c, d = .func a b c := by cases d <;> simp [tkOf] at h; exact ⟨_, _, _, rfl⟩
theorem tk_upt {d : TypeDesc} (h : TK.upt = tkOf d) : d = .unsafePointer := by cases d <;> simp [tkOf] at h; rfl
end
end X
end Go.Proofs.YtebfahobllghnaaGreatDoor
namespace Go.Proofs.YtebfahobllghnaaGreatDoor
namespace X
open Go.RowKit B
structure O5 where
  v : SV
  m : Mem
  nx : Nat
  pc : PC
  ft : Ft
def tc (ft : Ft) (t : Nat) : Prop := match ft with
  | .n => False
  | .r g => t = g
  | .w ts => t ∈ ts
  | .c => True
open Classical in
noncomputable def subM (ft : Ft) (m : Mem) : Nat → Option Blk := fun t => if tc ft t then m.get t else none
theorem subM_in {ft : Ft} {m : Mem} {t : Nat} (h : tc ft t) : subM ft m t = m.get t := if_pos h
theorem subM_out {ft : Ft} {m : Mem} {t : Nat} (h : ¬ tc ft t) : subM ft m t = none := if_neg h
theorem subM_some {ft : Ft} {m : Mem} {t : Nat} {b : Blk} (h : subM ft m t = some b) : tc ft t ∧ m.get t = some b := by
  by_cases hc : tc ft t
  · rw [subM_in hc] at h; exact ⟨hc, h⟩
  · rw [subM_out hc] at h; cases h
theorem subM_c {m : Mem} : subM .c m = m.get := funext fun _ => subM_in trivial
def SlOk (ρ : Rho) (s : Tr SV) (θ : Th) (a : Act) (xs : List Operand) : Prop := ∀ k ∈ rdOs xs, ∀ sv, s.get k = some sv → den ρ θ sv = some (get a k)
structure OpOk (P : Program) (ρ : Rho) (o : Oper) (s : Tr SV) (m : Mem) (nx : Nat) (r : O5) : Prop where
  pc : Sat ρ r.pc
  le : nx ≤ r.nx
  off : ∀ t, ¬ tc r.ft t → r.m.get t = m.get t
  rd : ∀ g, r.ft = .r g → r.m = m
  new : ∀ t, m.get t = none → r.m.get t ≠ none → nx ≤ t ∧ t < r.nx
  run : ∀ (a : Act) (w : World) (θ : Th), SlOk ρ s θ a o.op.operands.toList → MemOk ρ θ (subM r.ft m) w → (∀ t, nx ≤ t → t < r.nx → θ t = none) →
    o.wp P a w (fun a' w' => ∃ v θ', a' = a.put o.dst v ∧ SP ρ nx r.nx θ (subM r.ft m) w θ' (subM r.ft r.m) w' ∧ den ρ θ' r.v = some v) (fun _ _ _ => False)
section
variable {P : Program} {ρ : Rho} {o : Oper} {s : Tr SV} {m : Mem} {nx : Nat} {pc : PC} {a : Act} {w w' : World}
theorem wp_val {v : Value} {next : Act → World → Prop} {Q : Exit → Act → World → Prop} (h : (execOp a.eval o).run P w = .ok (.value v) w') (k : next (a.put o.dst v) w') : o.wp P a w next Q := by
  unfold Oper.wp; rw [h]; exact k
theorem wp_skip' {next : Act → World → Prop} {Q : Exit → Act → World → Prop} (h : (execOp a.eval o).run P w = .ok .skip w') (k : next (a.put o.dst undef) w') : o.wp P a w next Q := by
  unfold Oper.wp; rw [h]; exact k
theorem OpOk.pure {v : SV} (hs : Sat ρ pc) (h : ∀ (a : Act) (w : World) (θ : Th), SlOk ρ s θ a o.op.operands.toList → ∃ u, Runs P a o w u ∧ den ρ θ v = some u) : OpOk P ρ o s m nx ⟨v, m, nx, pc, .n⟩ where
  pc := hs
  le := Nat.le_refl _
  off := fun _ _ => rfl
  rd := fun _ h => by cases h
  new := fun t h1 h2 => absurd h1 h2
  run := fun a w θ h1 h2 _ => by
    obtain ⟨u, h3, h4⟩ := h a w θ h1
    exact wp_val h3 ⟨u, θ, rfl, SP.refl h2, h4⟩
theorem OpOk.read {v : SV} {g : Nat} (hs : Sat ρ pc) (h : ∀ (a : Act) (w : World) (θ : Th), SlOk ρ s θ a o.op.operands.toList → (∀ b, m.get g = some b → HoldsB ρ θ w g b) → ∃ u, Runs P a o w u ∧ den ρ θ v = some u) : OpOk P ρ o s m nx ⟨v, m, nx, pc, .r g⟩ where
  pc := hs
  le := Nat.le_refl _
  off := fun _ _ => rfl
  rd := fun _ _ => rfl
  new := fun t h1 h2 => absurd h1 h2
  run := fun a w θ h1 h2 _ => by
    obtain ⟨u, h3, h4⟩ := h a w θ h1 fun b hb => h2.holds g b (by rw [subM_in (show tc (.r g) g from rfl)]; exact hb)
    exact wp_val h3 ⟨u, θ, rfl, SP.refl h2, h4⟩
end
theorem fits_wrap {k : IntKind} {n : Int} (h : fits k n = true) : k.wrap n = n := by
  cases n with
  | ofNat a =>
    have e : (Int.ofNat a : Int) = (a : Int) := rfl
    cases k <;> simp only [fits] at h <;> first | cases h | skip
    all_goals have h1 := Nat.le_of_ble_eq_true h
    · exact IntWalk.i64_in _ (by rw [e]; omega)
    · simp [IntKind.wrap, IntKind.signed, IntKind.bits]; omega
    · simp [IntKind.wrap, IntKind.signed, IntKind.bits]; omega
    · simp [IntKind.wrap, IntKind.signed, IntKind.bits]; omega
  | negSucc a =>
    have e : (Int.negSucc a : Int) = -(a : Int) - 1 := by omega
    cases k <;> simp only [fits] at h <;> first | cases h | skip
    have h1 := Nat.le_of_ble_eq_true h
    exact IntWalk.i64_in _ (by rw [e]; omega)
theorem wrK_yl {k : IntKind} {n : Int} : Yl (wrK k n) fun v => v = .i k (k.wrap n) := by
  unfold wrK
  refine Yl.bind frc_yl fun x hx => ?_
  subst hx
  split
  · rename_i h
    exact Yl.pure _ (by rw [fits_wrap h])
  · exact Yl.bind frc_yl fun y hy => Yl.pure _ (by rw [hy])
section
variable {P : Program} {ρ : Rho} {o : Oper} {s : Tr SV} {m : Mem} {nx : Nat} {pc : PC} {a : Act} {w w' : World}
theorem r_bin {op : BinOp} {t t' : TypeId} {x y : Operand} {u v r : Value} (ho : o.op = .binOp op t x y t') (hx : a.eval x = u) (hy : a.eval y = v) (hg : (eqGuard op t x y u v).run P w = .ok () w) (h : (binOp op t u v).run P w = .ok r w) : Runs P a o w r := by
  simp only [Runs, execOp, ho, hx, hy, Sem.run_bind, hg, Result.andThen_ok, h]
  rfl
theorem guard_ok {op : BinOp} {t : TypeId} {x y : Operand} {u v : Value} (h1 : u ≠ .nilIface) (h2 : ∀ cs, u ≠ .agg cs) : (eqGuard op t x y u v).run P w = .ok () w := by
  unfold eqGuard
  cases op <;> (try rfl) <;> (cases u <;> first | rfl | exact absurd rfl h1 | exact absurd rfl (h2 _))
theorem binI_yl {op : BinOp} {k : IntKind} {p q : Int} (hop : op ≠ .shl ∧ op ≠ .shr) : Yl (binI op k p q) fun v => ∃ u, (∀ ρ θ, den ρ θ v = some u) ∧ ∀ (P : Program) (w : World) (t : TypeId), (binOp op t (.int k p) (.int k q)).run P w = .ok u w := by
  unfold binI
  split
  · exact Yl.pure _ ⟨.bool (decide (p < q)), fun _ _ => by simp only [den, leI_eq, Option.some.injEq, Value.bool.injEq]; rw [Bool.eq_iff_iff]; simp, fun P w t => by simp [binOp, Op.intCmp]⟩
  · exact Yl.pure _ ⟨.bool (decide (p ≤ q)), fun _ _ => by simp [den, leI_eq], fun P w t => by simp [binOp, Op.intCmp]⟩
  · exact Yl.pure _ ⟨.bool (decide (q < p)), fun _ _ => by simp only [den, leI_eq, Option.some.injEq, Value.bool.injEq]; rw [Bool.eq_iff_iff]; simp, fun P w t => by simp [binOp, Op.intCmp]⟩
  · exact Yl.pure _ ⟨.bool (decide (q ≤ p)), fun _ _ => by simp [den, leI_eq], fun P w t => by simp [binOp, Op.intCmp]⟩
  · exact Yl.pure _ ⟨.bool (p == q), fun _ _ => by simp only [den, eqI_eq, Option.some.injEq, Value.bool.injEq]; rw [Bool.eq_iff_iff]; simp, fun P w t => by simp [binOp, Op.intCmp]⟩
  · exact Yl.pure _ ⟨.bool (p != q), fun _ _ => by simp only [den, eqI_eq, Option.some.injEq, Value.bool.injEq]; rw [Bool.eq_iff_iff]; simp, fun P w t => by simp [binOp, Op.intCmp]⟩
  · exact wrK_yl.mono fun v hv => ⟨.int k (k.wrap (p + q)), fun _ _ => by rw [hv]; rfl, fun P w t => by simp [binOp, Op.intArith]⟩
  · exact wrK_yl.mono fun v hv => ⟨.int k (k.wrap (p - q)), fun _ _ => by rw [hv]; rfl, fun P w t => by simp [binOp, Op.intArith]⟩
  · exact wrK_yl.mono fun v hv => ⟨.int k (k.wrap (p * q)), fun _ _ => by rw [hv]; rfl, fun P w t => by simp [binOp, Op.intArith]⟩
  · split
    · exact Yl.no
    · rename_i h
      have hq : q ≠ 0 := fun e => by rw [eqI_iff.2 e] at h; cases h
      exact wrK_yl.mono fun v hv => ⟨.int k (k.wrap (p.tdiv q)), fun _ _ => by rw [hv]; rfl, fun P w t => by simp [binOp, Op.intDiv, hq]⟩
  · split
    · exact Yl.no
    · rename_i h
      have hq : q ≠ 0 := fun e => by rw [eqI_iff.2 e] at h; cases h
      exact Yl.bind frc_yl fun n hn => Yl.pure _ ⟨.int k (p.tmod q), fun _ _ => by rw [hn]; rfl, fun P w t => by simp [binOp, Op.intDiv, hq]⟩
  · exact wrK_yl.mono fun v hv => ⟨.int k (k.wrap (BitVec.ofInt k.bits p &&& BitVec.ofInt k.bits q).toNat), fun _ _ => by rw [hv]; rfl, fun P w t => by simp [binOp, Op.intBits]⟩
  · exact wrK_yl.mono fun v hv => ⟨.int k (k.wrap (BitVec.ofInt k.bits p ||| BitVec.ofInt k.bits q).toNat), fun _ _ => by rw [hv]; rfl, fun P w t => by simp [binOp, Op.intBits]⟩
  · exact wrK_yl.mono fun v hv => ⟨.int k (k.wrap (BitVec.ofInt k.bits p ^^^ BitVec.ofInt k.bits q).toNat), fun _ _ => by rw [hv]; rfl, fun P w t => by simp [binOp, Op.intBits]⟩
  · exact Yl.no
theorem shI_yl {op : BinOp} {k j : IntKind} {p q : Int} : Yl (shI op k p q) fun v => ∃ u, (∀ ρ θ, den ρ θ v = some u) ∧ ∀ (P : Program) (w : World) (t : TypeId), (binOp op t (.int k p) (.int j q)).run P w = .ok u w := by
  unfold shI
  split
  · rename_i h
    have hq : ¬ q < 0 := by have := leI_iff.1 h; omega
    split
    · exact wrK_yl.mono fun v hv => ⟨.int k (k.wrap (p * 2 ^ (min q.toNat k.bits))), fun _ _ => by rw [hv]; rfl, fun P w t => by simp [binOp, Op.shift, hq]⟩
    · exact Yl.bind frc_yl fun n hn => Yl.pure _ ⟨.int k (p.fdiv (2 ^ (min q.toNat k.bits))), fun _ _ => by rw [hn]; rfl, fun P w t => by simp [binOp, Op.shift, hq]⟩
    · exact Yl.no
  · exact Yl.no
theorem in64_ok {pc : PC} {e : Lin} (h : in64 pc e = true) (hs : Sat ρ pc) : -9223372036854775808 ≤ e.den ρ ∧ e.den ρ ≤ 9223372036854775807 := by
  unfold in64 at h
  split at h
  · simp only [Bool.and_eq_true, leI_iff] at h
    rw [const_den]; exact h
  · simp only [Bool.and_eq_true] at h
    have h1 := proves_ok h.1 hs
    have h2 := proves_ok h.2 hs
    rw [add_den, const_den] at h1
    rw [sub_den, const_den] at h2
    omega
theorem one1_ok {i : Nat} (hs : Sat ρ pc) (h : one1 pc i = true) : i < 16 ∧ (∃ b, ρ.s i = [b]) ∧ ρ.v 500 = 0 := by
  simp only [one1, Bool.and_eq_true, Nat.blt_eq] at h
  obtain ⟨⟨h1, h2⟩, h3⟩ := h
  have h2 := zeroL_ok hs h2
  have h3 := zeroL_ok hs h3
  have l1 : ρ.at (Nat.add (Nat.mul 4 i) 1) = ((ρ.s i).length : Int) := ρ.at_l i
  have l2 : ρ.at 1000 = ρ.v 500 := ρ.at_v 500
  simp only [Lin.den, dts, l1] at h2
  simp only [Lin.den, dts, l2] at h3
  refine ⟨h1, ?_, by omega⟩
  have : (ρ.s i).length = 1 := by omega
  match hq : ρ.s i with
  | [] => rw [hq] at this; cases this
  | [b] => exact ⟨b, rfl⟩
  | _ :: _ :: _ => rw [hq] at this; simp at this
theorem byte_at {i : Nat} {b : UInt8} (hi : i < 16) (hb : ρ.s i = [b]) (hv : ρ.v 500 = 0) : ρ.at (8 * (i + 8000) + 3) = (b.toNat : Int) := by
  have := ρ.at_b i 500 hi
  rw [show 8 * (i + 16 * 500) + 3 = 8 * (i + 8000) + 3 by omega, hb, hv] at this
  simpa using this
theorem linX_yl {op : BinOp} {k : IntKind} {p q : Lin} (hs : Sat ρ pc) : Yl (fun K => linX op k p q pc fun v pc => K (v, pc)) fun r => Sat ρ r.2 ∧ ∃ u, (∀ θ, den ρ θ r.1 = some u) ∧ ∀ (P : Program) (w : World) (t : TypeId), (binOp op t (.int k (p.den ρ)) (.int k (q.den ρ))).run P w = .ok u w := by
  unfold linX
  split
  · refine Yl.map (fun r : Bool × PC => (SV.b (!r.1), r.2)) (dec2_yl hs) fun r hr => ?_
    refine ⟨hr.2, .bool (decide (p.den ρ < q.den ρ)), fun θ => ?_, fun P w t => by simp [binOp, Op.intCmp]⟩
    simp only [den, hr.1, sub_den, Option.some.injEq, Value.bool.injEq]
    rw [Bool.eq_iff_iff]; simp
  · refine Yl.map (fun r : Bool × PC => (SV.b r.1, r.2)) (dec2_yl hs) fun r hr => ?_
    refine ⟨hr.2, .bool (decide (p.den ρ ≤ q.den ρ)), fun θ => ?_, fun P w t => by simp [binOp, Op.intCmp]⟩
    simp only [den, hr.1, sub_den, Option.some.injEq, Value.bool.injEq]
    rw [Bool.eq_iff_iff]; simp
  · refine Yl.map (fun r : Bool × PC => (SV.b (!r.1), r.2)) (dec2_yl hs) fun r hr => ?_
    refine ⟨hr.2, .bool (decide (q.den ρ < p.den ρ)), fun θ => ?_, fun P w t => by simp [binOp, Op.intCmp]⟩
    simp only [den, hr.1, sub_den, Option.some.injEq, Value.bool.injEq]
    rw [Bool.eq_iff_iff]; simp
  · refine Yl.map (fun r : Bool × PC => (SV.b r.1, r.2)) (dec2_yl hs) fun r hr => ?_
    refine ⟨hr.2, .bool (decide (q.den ρ ≤ p.den ρ)), fun θ => ?_, fun P w t => by simp [binOp, Op.intCmp]⟩
    simp only [den, hr.1, sub_den, Option.some.injEq, Value.bool.injEq]
    rw [Bool.eq_iff_iff]; simp
  · refine Yl.bind2 (dec2_yl hs) fun b pc' hr => ?_
    simp only at hr
    rw [sub_den] at hr
    split
    · refine Yl.map (fun r : Bool × PC => (SV.b (r.1), r.2)) (dec2_yl hr.2) fun r hr2 => ?_
      refine ⟨hr2.2, .bool (p.den ρ == q.den ρ), fun θ => ?_, fun P w t => by simp [binOp, Op.intCmp]⟩
      have h1 := hr.1
      simp only [den, hr2.1, sub_den, Option.some.injEq, Value.bool.injEq]
      rw [Bool.eq_iff_iff]; simp at h1 ⊢; omega
    · refine Yl.pure (SV.b false, pc') ⟨hr.2, .bool (p.den ρ == q.den ρ), fun θ => ?_, fun P w t => by simp [binOp, Op.intCmp]⟩
      have h1 := hr.1
      simp only [den, Option.some.injEq, Value.bool.injEq]
      rw [Bool.eq_iff_iff]; simp at h1 ⊢; omega
  · refine Yl.bind2 (dec2_yl hs) fun b pc' hr => ?_
    simp only at hr
    rw [sub_den] at hr
    split
    · refine Yl.map (fun r : Bool × PC => (SV.b (!r.1), r.2)) (dec2_yl hr.2) fun r hr2 => ?_
      refine ⟨hr2.2, .bool (p.den ρ != q.den ρ), fun θ => ?_, fun P w t => by simp [binOp, Op.intCmp]⟩
      have h1 := hr.1
      simp only [den, hr2.1, sub_den, Option.some.injEq, Value.bool.injEq]
      rw [Bool.eq_iff_iff]; simp at h1 ⊢; omega
    · refine Yl.pure (SV.b true, pc') ⟨hr.2, .bool (p.den ρ != q.den ρ), fun θ => ?_, fun P w t => by simp [binOp, Op.intCmp]⟩
      have h1 := hr.1
      simp only [den, Option.some.injEq, Value.bool.injEq]
      rw [Bool.eq_iff_iff]; simp at h1 ⊢; omega
  · split
    · rename_i h
      simp only [Bool.and_eq_true, ikEq_iff] at h
      obtain ⟨rfl, h⟩ := h
      have := in64_ok h hs
      rw [add_den] at this
      refine Yl.pure (_, _) ⟨hs, .int .i64 (p.den ρ + q.den ρ), fun θ => by rw [svx_den, add_den], fun P w t => ?_⟩
      simp [binOp, Op.intArith]; exact IntWalk.i64_in _ this
    · exact Yl.no
  · split
    · rename_i h
      simp only [Bool.and_eq_true, ikEq_iff] at h
      obtain ⟨rfl, h⟩ := h
      have := in64_ok h hs
      rw [sub_den] at this
      refine Yl.pure (_, _) ⟨hs, .int .i64 (p.den ρ - q.den ρ), fun θ => by rw [svx_den, sub_den], fun P w t => ?_⟩
      simp [binOp, Op.intArith]; exact IntWalk.i64_in _ this
    · exact Yl.no
  · exact Yl.no
theorem bytP_ok {j i : Nat} (hs : Sat ρ pc) (h : bytP pc j = some i) : ∃ b : UInt8, ρ.s i = [b] ∧ ρ.at j = (b.toNat : Int) := by
  unfold bytP at h
  split at h
  · rename_i hc
    cases h
    simp only [Bool.and_eq_true, Nat.beq_eq] at hc
    obtain ⟨⟨h1, h2⟩, h3⟩ := hc
    have h1 : j % 8 = 3 := h1
    have h2 : j / 128 = 500 := h2
    obtain ⟨h5, ⟨b, hb⟩, hv⟩ := one1_ok hs h3
    have hj : j = 8 * (j / 8 % 16 + 8000) + 3 := by omega
    have hat := byte_at (i := j / 8 % 16) h5 hb hv
    rw [← hj] at hat
    exact ⟨b, hb, hat⟩
  · cases h
theorem bytesC_yl (hs : Sat ρ pc) : ∀ {l : List SV}, Yl (bytesC pc l) fun r => ∀ (θ : Th) (us : List Value), dens ρ θ l = some us → us = (denS ρ r).map fun b => .int .u8 b.toNat
  | [] => Yl.pure [] fun θ us h => by cases h; rfl
  | v :: l => by
    show Yl (fun K => bytesC pc (v :: l) K) _
    unfold bytesC
    split
    · rename_i h; cases h
    · rename_i n l' h
      cases h
      split
      · rename_i hn
        have hn := Nat.le_of_ble_eq_true hn
        refine Yl.map (fun r => Pc.c n :: r) (bytesC_yl hs (l := l)) fun r hr => ?_
        intro θ us h
        simp only [dens, den, Option.bind_some, Option.map_eq_some_iff] at h
        obtain ⟨us', h1, rfl⟩ := h
        rw [hr θ us' h1, denS_cons]
        have : (UInt8.ofNat n).toNat = n := by simp; omega
        simp only [Pc.den, List.map_append, List.map_cons, List.map_nil, List.cons_append, List.nil_append, this]
        rfl
      · exact Yl.no
    · rename_i j l' h
      cases h
      split
      · rename_i i hi
        obtain ⟨b, hb, hat⟩ := bytP_ok hs hi
        refine Yl.bind frn_yl fun i' hi' => ?_
        subst hi'
        refine Yl.map (fun r => Pc.a i' :: r) (bytesC_yl hs (l := l)) fun r hr => ?_
        intro θ us h
        have h5 : (Lin.mk 0 [(j, 1)]).den ρ = ρ.at j := by simp [Lin.den, dts]
        simp only [dens, den, h5, hat, Option.bind_some, Option.map_eq_some_iff] at h
        obtain ⟨us', h1, rfl⟩ := h
        rw [hr θ us' h1, denS_cons, show Pc.den ρ (.a i') = ρ.s i' from rfl, hb]
        rfl
      · exact Yl.no
    · exact Yl.no
theorem neB_ok {j n : Nat} (hs : Sat ρ pc) (h : neB pc j n = true) : ρ.at j ≠ (n : Int) := by
  simp only [neB, Bool.and_eq_true, Nat.beq_eq] at h
  obtain ⟨⟨⟨h1, h2⟩, h3⟩, h4⟩ := h
  have h1 : j % 8 = 3 := h1
  have h2 : j / 128 = 500 := h2
  obtain ⟨h5, ⟨b, hb⟩, hv⟩ := one1_ok hs h3
  have h6 := notB_ok hs h4
  have hj : j = 8 * (j / 8 % 16 + 8000) + 3 := by omega
  have hat := byte_at (i := j / 8 % 16) h5 hb hv
  rw [hj, hat]
  intro e
  have hlt : b.toNat < 256 := UInt8.toNat_lt _
  refine h6 ?_
  show ρ.s (j / 8 % 16) = _
  have hbn : b = UInt8.ofNat n := by
    refine UInt8.toNat_inj.1 ?_
    have : n = b.toNat := by omega
    rw [this]; simp
  rw [← hbn]; exact hb
theorem byteNe_ok {op : BinOp} {p : Lin} {q : Int} (hs : Sat ρ pc) (h : byteNe op p q pc = true) : (op = .eql ∨ op = .neq) ∧ p.den ρ ≠ q := by
  unfold byteNe at h
  split at h
  · have := neB_ok hs h
    refine ⟨.inl rfl, ?_⟩
    simp only [Lin.den, dts]
    intro e; exact this (by simp at e; omega)
  · have := neB_ok hs h
    refine ⟨.inr rfl, ?_⟩
    simp only [Lin.den, dts]
    intro e; exact this (by simp at e; omega)
  · cases h
theorem svx_den' {k : IntKind} {e : Lin} {θ : Th} : den ρ θ (svx k e) = some (.int k (e.den ρ)) := by
  unfold svx
  split
  · rw [const_den]; rfl
  · rfl
theorem remL_ok {q : Int} (hs : Sat ρ pc) : ∀ {n : Nat} {p e : Lin}, remL q p pc n = some e → 0 ≤ e.den ρ ∧ e.den ρ < q ∧ ∃ m : Nat, p.den ρ = e.den ρ + q * m
  | 0, p, e, h => by cases h
  | n + 1, p, e, h => by
    simp only [remL] at h
    split at h
    · rename_i hc
      cases h
      simp only [Bool.and_eq_true] at hc
      have h1 := proves_ok hc.1 hs
      have h2 := proves_ok hc.2 hs
      rw [sub_den, const_den] at h2
      exact ⟨h1, by omega, 0, by simp⟩
    · split at h
      · rename_i e' he
        cases h
        obtain ⟨h1, h2, m, h3⟩ := remL_ok hs he
        rw [sub_den, const_den] at h3
        refine ⟨h1, h2, m + 1, ?_⟩
        have : q * ((m + 1 : Nat) : Int) = q * m + q := by push_cast; rw [Int.mul_add, Int.mul_one]
        omega
      · cases h
theorem remH_ok {q : Int} {p e : Lin} (hs : Sat ρ pc) : ∀ {l : List Lin}, remH q p pc l = some e → 0 ≤ e.den ρ ∧ e.den ρ < q ∧ ∃ m : Int, p.den ρ = e.den ρ + q * m
  | [], h => by cases h
  | h :: l, he => by
    simp only [remH] at he
    split at he
    · rename_i hc
      cases he
      simp only [Bool.and_eq_true] at hc
      have h1 := proves_ok hc.1 hs
      have h2 := proves_ok hc.2 hs
      rw [sub_den, const_den] at h2
      exact ⟨h1, by omega, h.den ρ, by rw [sub_den, mul_den]; omega⟩
    · exact remH_ok hs he
theorem wrU_ok (hs : Sat ρ pc) {p e : Lin} : ∀ {l : List Lin}, (∀ h ∈ l, ∃ m : Int, h.den ρ = 4294967296 * m) → wrU p pc l = some e → 0 ≤ e.den ρ ∧ e.den ρ ≤ 4294967295 ∧ ∃ m : Int, p.den ρ = e.den ρ + 4294967296 * m
  | [], _, h => by cases h
  | h :: l, hl, he => by
    simp only [wrU] at he
    split at he
    · rename_i hc
      cases he
      simp only [Bool.and_eq_true] at hc
      have h1 := proves_ok hc.1 hs
      have h2 := proves_ok hc.2 hs
      obtain ⟨m, hm⟩ := hl h (by simp)
      rw [sub_den] at h1
      rw [sub_den, const_den, sub_den] at h2
      rw [sub_den]
      exact ⟨h1, by omega, m, by omega⟩
    · exact wrU_ok hs (fun h q => hl h (by simp [q])) he
theorem u32_wrap {n e m : Int} (h1 : 0 ≤ e) (h2 : e ≤ 4294967295) (h3 : n = e + 4294967296 * m) : (IntKind.u32).wrap n = e := by
  have : n % 4294967296 = e := by omega
  simp [IntKind.wrap, IntKind.bits, IntKind.signed, this]
theorem linU_yl {p : Lin} {x : Int} (hp : p.den ρ = x) (hs : Sat ρ pc) : Yl (fun K => linU p pc fun v pc => K (v, pc)) fun r => Sat ρ r.2 ∧ ∀ θ, den ρ θ r.1 = some (.int .u32 ((IntKind.u32).wrap x)) := by
  unfold linU
  split
  · rename_i e he
    obtain ⟨h1, h2, m, h3⟩ := wrU_ok hs (fun h q => by
      simp only [hintsU, List.mem_cons, List.not_mem_nil, or_false] at q
      rcases q with rfl | rfl | rfl
      · exact ⟨0, by simp [Lin.den, dts]⟩
      · exact ⟨ρ.at 9980, by simp [Lin.den, dts]⟩
      · exact ⟨ρ.at 9982, by simp [Lin.den, dts]⟩) he
    refine Yl.pure (svx .u32 e, pc) ⟨hs, fun θ => ?_⟩
    rw [svx_den', u32_wrap h1 h2 (hp ▸ h3)]
  · exact Yl.no
theorem linR_yl {op : BinOp} {k : IntKind} {p : Lin} {q : Int} (hs : Sat ρ pc) : Yl (fun K => linR op k p q pc fun v pc => K (v, pc)) fun r => Sat ρ r.2 ∧ ∃ u, (∀ θ, den ρ θ r.1 = some u) ∧ ∀ (P : Program) (w : World) (t : TypeId), (binOp op t (.int k (p.den ρ)) (.int k q)).run P w = .ok u w := by
  unfold linR
  split
  · split
    · rename_i hk
      have hk := ikEq_iff.1 hk
      subst hk
      exact (linU_yl (x := p.den ρ * q) (by rw [mul_den, Int.mul_comm]) hs).mono fun r hr => ⟨hr.1, _, hr.2, fun P w t => by simp [binOp, Op.intArith]⟩
    · exact Yl.no
  · split
    · rename_i hk
      have hk := ikEq_iff.1 hk
      subst hk
      exact (linU_yl (x := p.den ρ + q) (by rw [add_den, const_den]) hs).mono fun r hr => ⟨hr.1, _, hr.2, fun P w t => by simp [binOp, Op.intArith]⟩
    · have := linX_yl (op := .add) (k := k) (p := p) (q := .mk q []) hs
      rw [const_den] at this
      exact this
  · split
    · rename_i hc
      simp only [Bool.and_eq_true] at hc
      have hq := leI_iff.1 hc.1.1
      have hp := proves_ok hc.2 hs
      split
      · rename_i e he
        obtain ⟨h1, h2, m, h3⟩ := remL_ok hs he
        refine Yl.pure (svx k e, pc) ⟨hs, .int k (e.den ρ), fun θ => svx_den', fun P w t => ?_⟩
        have h4 : (p.den ρ).tmod q = e.den ρ := by
          rw [Int.tmod_eq_emod_of_nonneg hp, h3, Int.add_mul_emod_self_left, Int.emod_eq_of_lt h1 h2]
        have hq0 : q ≠ 0 := by omega
        simp [binOp, Op.intDiv, hq0, h4]
      · split
        · rename_i e he
          obtain ⟨h1, h2, m, h3⟩ := remH_ok hs he
          refine Yl.pure (svx k e, pc) ⟨hs, .int k (e.den ρ), fun θ => svx_den', fun P w t => ?_⟩
          have h4 : (p.den ρ).tmod q = e.den ρ := by
            rw [Int.tmod_eq_emod_of_nonneg hp, h3, Int.add_mul_emod_self_left, Int.emod_eq_of_lt h1 h2]
          have hq0 : q ≠ 0 := by omega
          simp [binOp, Op.intDiv, hq0, h4]
        · exact Yl.no
    · exact Yl.no
  · have := linX_yl (op := op) (k := k) (p := p) (q := .mk q []) hs
    rw [const_den] at this
    exact this
theorem linQ_yl {op : BinOp} {k : IntKind} {p : Lin} {q : Int} (hs : Sat ρ pc) : Yl (fun K => linQ op k p q pc fun v pc => K (v, pc)) fun r => Sat ρ r.2 ∧ ∃ u, (∀ θ, den ρ θ r.1 = some u) ∧ ∀ (P : Program) (w : World) (t : TypeId), (binOp op t (.int k (p.den ρ)) (.int k q)).run P w = .ok u w := by
  unfold linQ
  split
  · rename_i h
    obtain ⟨h1, h2⟩ := byteNe_ok hs h
    have e : (p.den ρ == q) = false := by simp [h2]
    rcases h1 with rfl | rfl
    · exact Yl.pure (SV.b false, pc) ⟨hs, .bool (p.den ρ == q), fun θ => by rw [e]; rfl, fun P w t => by simp [binOp, Op.intCmp]⟩
    · exact Yl.pure (SV.b true, pc) ⟨hs, .bool (!(p.den ρ == q)), fun θ => by rw [e]; rfl, fun P w t => by simp [binOp, Op.intCmp, bne]⟩
  · exact linR_yl hs
theorem bstr_toList (l : List UInt8) : (bstr l).toList = l := by rw [ByteArray.toList_eq]; simp [bstr]
theorem bstr_size (l : List UInt8) : (bstr l).size = l.length := by simp [bstr, ByteArray.size]
theorem bstr_app (l m : List UInt8) : bstr l ++ bstr m = bstr (l ++ m) := by
  have : (bstr l ++ bstr m).data = (bstr (l ++ m)).data := by simp [bstr]
  cases h : bstr l ++ bstr m
  cases h2 : bstr (l ++ m)
  rw [h, h2] at this
  simp at this
  rw [this]
theorem bstr_ext (l : List UInt8) (a b : Nat) : (bstr l).extract a b = bstr ((l.drop a).take (b - a)) := by
  have : ((bstr l).extract a b).data = (bstr ((l.drop a).take (b - a))).data := by
    rw [ByteArray.data_extract]
    apply Array.ext'
    rw [Array.toList_extract]
    rfl
  cases h : (bstr l).extract a b
  cases h2 : bstr ((l.drop a).take (b - a))
  rw [h, h2] at this
  simp at this
  rw [this]
end
end X
end Go.Proofs.YtebfahobllghnaaGreatDoor
namespace Go.Proofs.YtebfahobllghnaaGreatDoor
namespace X
open Go.RowKit B
theorem ltStr_ok {ρ : Rho} : ∀ {a b : Str}, knownS a = true → knownS b = true → ltStr a b = Op.bytesLess (denS ρ a) (denS ρ b)
  | a, [], _, _ => by cases a <;> simp [ltStr, denS_nil, Op.bytesLess]
  | [], .c y :: m, _, _ => by simp [ltStr, denS_cons, Pc.den, denS_nil, Op.bytesLess]
  | .c x :: l, .c y :: m, ha, hb => by
    simp only [knownS] at ha hb
    split at ha
    · rename_i h1
      split at hb
      · rename_i h2
        have l1 := Nat.le_of_ble_eq_true h1
        have l2 := Nat.le_of_ble_eq_true h2
        rw [denS_cons, denS_cons]
        simp only [Pc.den, List.cons_append, List.nil_append, Op.bytesLess, ltStr]
        have e1 : (UInt8.ofNat x < UInt8.ofNat y) ↔ x < y := by
          rw [UInt8.lt_iff_toNat_lt]; simp; omega
        have e2 : (UInt8.ofNat x = UInt8.ofNat y) ↔ x = y := by
          constructor
          · intro h
            have := congrArg UInt8.toNat h
            simp at this; omega
          · rintro rfl; rfl
        rw [← ltStr_ok ha hb]
        split
        · rename_i h
          have : x < y := by simpa [Nat.blt_eq] using h
          simp [e1, this]
        · rename_i h
          have hxy : ¬ x < y := fun h' => by
            have h4 : Nat.blt x y = true := by simpa [Nat.blt_eq] using h'
            rw [h4] at h; cases h
          split
          · rename_i h3
            have := Nat.eq_of_beq_eq_true h3
            subst this
            simp
          · rename_i h3
            have := Nat.ne_of_beq_eq_false h3
            have e3 : (UInt8.ofNat x == UInt8.ofNat y) = false := by simp [e2, this]
            simp [e1, hxy, e3]
      · cases hb
    · cases ha
  | .a i :: l, _, ha, _ => by simp [knownS] at ha
  | _, .a i :: l, _, hb => by simp [knownS] at hb
section
variable {P : Program} {ρ : Rho} {o : Oper} {s : Tr SV} {m : Mem} {nx : Nat} {pc : PC} {a : Act} {w w' : World}
theorem binS_yl {op : BinOp} {u v : Str} (hs : Sat ρ pc) : Yl (fun K => binS op u v pc fun v pc => K (v, pc)) fun r => Sat ρ r.2 ∧ ∃ x, (∀ θ, den ρ θ r.1 = some x) ∧ ∀ (P : Program) (w : World) (t : TypeId), (binOp op t (.string (bstr (denS ρ u))) (.string (bstr (denS ρ v)))).run P w = .ok x w := by
  unfold binS
  split
  · refine Yl.map (fun r : Bool × PC => (SV.b r.1, r.2)) (eqSK_yl hs) fun r hr => ⟨hr.2, .bool ((bstr (denS ρ u)).toList == (bstr (denS ρ v)).toList), fun θ => ?_, fun P w t => by simp [binOp, Op.stringOp]⟩
    simp only [den, hr.1, bstr_toList, Option.some.injEq, Value.bool.injEq]
    rw [Bool.eq_iff_iff]; simp
  · refine Yl.map (fun r : Bool × PC => (SV.b (!r.1), r.2)) (eqSK_yl hs) fun r hr => ⟨hr.2, .bool (!((bstr (denS ρ u)).toList == (bstr (denS ρ v)).toList)), fun θ => ?_, fun P w t => by simp [binOp, Op.stringOp]⟩
    simp only [den, hr.1, bstr_toList, Option.some.injEq, Value.bool.injEq]
    rw [Bool.eq_iff_iff]; simp
  · split
    · rename_i h
      have h1 := in64_ok h hs
      rw [add_den, lenS_den, lenS_den] at h1
      refine Yl.map (fun l => (SV.s l, pc)) appS_yl fun r hr => ⟨hs, .string (bstr (denS ρ u) ++ bstr (denS ρ v)), fun θ => ?_, fun P w t => ?_⟩
      · simp only [den, hr, denS_app, bstr_app]
      · have h2 : ¬ (9223372036854775807 < ((denS ρ u).length : Int) + ((denS ρ v).length : Int)) := by omega
        simp [binOp, Op.stringOp, bstr_size, IntKind.max, IntKind.signed, IntKind.bits, h2]
    · exact Yl.no
  · split
    · rename_i h
      simp only [Bool.and_eq_true] at h
      exact Yl.pure (_, _) ⟨hs, .bool (Op.bytesLess (denS ρ u) (denS ρ v)), fun θ => by simp only [den, ltStr_ok (ρ := ρ) h.1 h.2], fun P w t => by simp [binOp, Op.stringOp, bstr_toList]⟩
    · exact Yl.no
  · split
    · rename_i h
      simp only [Bool.and_eq_true] at h
      have tot : ∀ (l m : List UInt8), (!(Op.bytesLess l m || l == m)) = Op.bytesLess m l := by
        intro l
        induction l with
        | nil => intro m; cases m <;> simp [Op.bytesLess]
        | cons x l ih =>
          intro m
          cases m with
          | nil => simp [Op.bytesLess]
          | cons y m =>
            have := ih m
            simp only [Op.bytesLess, List.cons_beq_cons]
            rcases Nat.lt_trichotomy x.toNat y.toNat with h | h | h
            · have h1 : x < y := UInt8.lt_iff_toNat_lt.2 h
              have h2 : ¬ y < x := fun q => by have := UInt8.lt_iff_toNat_lt.1 q; omega
              have h3 : (y == x) = false := by simp; intro e; rw [e] at h; omega
              simp [h1, h2, h3]
            · have e : x = y := UInt8.toNat_inj.1 h
              subst e
              simpa using this
            · have h1 : y < x := UInt8.lt_iff_toNat_lt.2 h
              have h2 : ¬ x < y := fun q => by have := UInt8.lt_iff_toNat_lt.1 q; omega
              have h3 : (x == y) = false := by simp; intro e; rw [e] at h; omega
              simp [h1, h2, h3]
      refine Yl.pure (_, _) ⟨hs, .bool (Op.bytesLess (denS ρ v) (denS ρ u)), fun θ => by simp only [den, ltStr_ok (ρ := ρ) h.2 h.1], fun P w t => ?_⟩
      rw [← tot]
      simp [binOp, Op.stringOp, bstr_toList]
    · exact Yl.no
  · exact Yl.no
theorem eqNeq_yl {op : BinOp} {b : Bool} : Yl (eqNeq op b) fun v => (op = .eql ∧ v = .b b) ∨ (op = .neq ∧ v = .b (!b)) := by
  unfold eqNeq
  split
  · exact Yl.pure _ (.inl ⟨rfl, rfl⟩)
  · exact Yl.pure _ (.inr ⟨rfl, rfl⟩)
  · exact Yl.no
theorem eqOne_yl {k : TK} {x y : SV} (hs : Sat ρ pc) : Yl (fun K => eqOne k pc x y fun r pc => K (r, pc)) fun r => Sat ρ r.2 ∧ ∀ (P : Program) (t : Nat), kindT P t = k → ∀ (θ : Th) (u v : Value) (d : Nat) (w : World), den ρ θ x = some u → den ρ θ y = some v → (Op.equalIn (d + 1) t u v).run P w = .ok r.1 w ∧ ∀ w, (Go.isAgg t).run P w = .ok false w := by
  have agg : ∀ {P : Program} {t : Nat} {d : TypeDesc}, P.underlying t = some d → isAggD d = false → ∀ w, (Go.isAgg t).run P w = .ok false w := fun {P t d} hd h w => by
    unfold Go.isAgg; rw [Sem.run_bind, run_underlying hd, Result.andThen_ok]
    unfold isAggD at h; split at h <;> simp_all
  have int : ∀ {P : Program} {t : Nat} {j : IntKind} {i : IntKind} {p q : Int} (d : Nat) (w : World), kindT P t = .int j → (Op.equalIn (d + 1) t (.int i p) (.int i q)).run P w = .ok (p == q) w ∧ ∀ w, (Go.isAgg t).run P w = .ok false w := fun {P t j i p q} d w hk => by
    obtain ⟨dd, h1, h2⟩ := kindT_ok hk (by simp)
    rw [tk_int h2] at h1
    exact ⟨run_equalIn_int w d t i j p q h1, agg h1 rfl⟩
  -- two numbers, both ways
  have two : ∀ {p q : Lin} {pc : PC}, Sat ρ pc → Yl (fun K => dec2 pc (p.sub q) fun b pc => match b with | true => dec2 pc (q.sub p) fun b pc => K (b, pc) | false => K (false, pc)) fun r : Bool × PC => Sat ρ r.2 ∧ r.1 = (p.den ρ == q.den ρ) := by
    intro p q pc hs
    refine Yl.bind2 (dec2_yl hs) fun b pc' hr => ?_
    simp only at hr
    rw [sub_den] at hr
    have h1 := hr.1
    split
    · refine Yl.mono (dec2_yl hr.2) fun r hr2 => ⟨hr2.2, ?_⟩
      rw [hr2.1, sub_den]
      rw [Bool.eq_iff_iff]; simp at h1 ⊢; omega
    · refine Yl.pure (false, pc') ⟨hr.2, ?_⟩
      rw [Bool.eq_iff_iff]; simp at h1 ⊢; omega
  unfold eqOne
  split
  · rename_i k' p j q i
    split
    · rename_i h
      have := ikEq_iff.1 h
      subst this
      refine Yl.pure (_, _) ⟨hs, fun P t hk θ u v d w e1 e2 => ?_⟩
      cases e1; cases e2
      have := int (p := p) (q := q) (i := k') d w hk
      refine ⟨?_, this.2⟩
      rw [this.1, eqI_eq]; rfl
    · exact Yl.no
  · rename_i b c
    refine Yl.pure (_, _) ⟨hs, fun P t hk θ u v d w e1 e2 => ?_⟩
    cases e1; cases e2
    obtain ⟨dd, h1, h2⟩ := kindT_ok hk (by simp)
    rw [tk_bool h2] at h1
    exact ⟨run_equalIn_bool w d t _ _ h1, agg h1 rfl⟩
  · rename_i l m
    refine Yl.mono (eqSK_yl hs) fun r hr => ⟨hr.2, fun P t hk θ u v d w e1 e2 => ?_⟩
    cases e1; cases e2
    obtain ⟨dd, h1, h2⟩ := kindT_ok hk (by simp)
    rw [tk_str h2] at h1
    refine ⟨?_, agg h1 rfl⟩
    rw [run_equalIn_string w d t _ _ h1, hr.1]
    congr 1
    rw [Bool.eq_iff_iff]
    simp [bstr_toList]
  · rename_i k' p j q i
    split
    · rename_i h
      have := ikEq_iff.1 h
      subst this
      refine Yl.mono (two hs) fun r hr => ⟨hr.1, fun P t hk θ u v d w e1 e2 => ?_⟩
      cases e1; cases e2
      rw [hr.2]; exact int d w hk
    · exact Yl.no
  · rename_i k' p j q i
    split
    · rename_i h
      have := ikEq_iff.1 h
      subst this
      refine Yl.mono (two hs) fun r hr => ⟨hr.1, fun P t hk θ u v d w e1 e2 => ?_⟩
      cases e1; cases e2
      rw [hr.2, const_den]; exact int d w hk
    · exact Yl.no
  · rename_i k' p j q i
    split
    · rename_i h
      have := ikEq_iff.1 h
      subst this
      refine Yl.mono (two hs) fun r hr => ⟨hr.1, fun P t hk θ u v d w e1 e2 => ?_⟩
      cases e1; cases e2
      rw [hr.2, const_den]; exact int d w hk
    · exact Yl.no
  · exact Yl.no
theorem run_part {t : TypeId} {cs : Array Value} {i : Nat} {u : Value} (hz : ∀ w, (Go.isAgg t).run P w = .ok false w) (hc : cs[i]? = some u) : (part t cs i).run P w = .ok u w := by
  simp [part, hz, hc]
theorem eqCells_yl : ∀ {F : List Field} {i : Nat} {l l' : List SV} {pc : PC}, Sat ρ pc → fieldsOk i F = true → Yl (fun K => eqCells P pc (F.map fun f => (f.offset, f.type)) l l' fun r pc => K (r, pc)) fun r => Sat ρ r.2 ∧ ∀ (θ : Th) (pre pre' xs ys : List Value) (d : Nat) (w : World), pre.length = i → pre'.length = i → dens ρ θ l = some xs → dens ρ θ l' = some ys →
      (Op.eqFields (d + 1) (pre ++ xs).toArray (pre' ++ ys).toArray F).run P w = .ok r.1 w
  | [], i, [], [], pc, hs, hf => Yl.pure (true, pc) ⟨hs, fun θ pre pre' xs ys d w _ _ _ _ => by simp [Op.eqFields]⟩
  | f :: F, i, a :: l, b :: l', pc, hs, hf => by
    simp only [fieldsOk, Bool.and_eq_true, Nat.beq_eq, bne_iff_ne, ne_eq] at hf
    obtain ⟨⟨hn, ho⟩, hF⟩ := hf
    have eqn : (fun K : Bool × PC → Bool => eqCells P pc ((f :: F).map fun f => (f.offset, f.type)) (a :: l) (b :: l') fun r pc => K (r, pc)) = fun K => eqOne (kindT P f.type) pc a b fun r pc => match r with
      | true => eqCells P pc (F.map fun f => (f.offset, f.type)) l l' fun r pc => K (r, pc)
      | false => K (false, pc) := rfl
    rw [eqn]
    refine Yl.bind2 (eqOne_yl hs) fun r pc' hr => ?_
    obtain ⟨hs', h1⟩ := hr
    simp only at h1
    -- one field, then the others
    have key : ∀ (θ : Th) (pre pre' xs ys : List Value) (d : Nat) (w : World), pre.length = i → pre'.length = i → dens ρ θ (a :: l) = some xs → dens ρ θ (b :: l') = some ys →
        ∃ u v xs' ys', xs = u :: xs' ∧ ys = v :: ys' ∧ dens ρ θ l = some xs' ∧ dens ρ θ l' = some ys' ∧ (Op.eqFields (d + 1) (pre ++ xs).toArray (pre' ++ ys).toArray (f :: F)).run P w = if r = true then (Op.eqFields (d + 1) (pre ++ xs).toArray (pre' ++ ys).toArray F).run P w else .ok false w := by
      intro θ pre pre' xs ys d w p1 p2 e1 e2
      simp only [dens, Option.bind_eq_some_iff, Option.map_eq_some_iff] at e1 e2
      obtain ⟨u, g1, xs', g2, rfl⟩ := e1
      obtain ⟨v, g3, ys', g4, rfl⟩ := e2
      refine ⟨u, v, xs', ys', rfl, rfl, g2, g4, ?_⟩
      obtain ⟨q1, q2⟩ := h1 P f.type rfl θ u v d w g1 g3
      have hv : (pre ++ u :: xs').toArray[i]? = some u := by simp [p1.symm]
      have hu : (pre' ++ v :: ys').toArray[i]? = some v := by simp [p2.symm]
      simp only [Op.eqFields, if_pos hn, ne_eq, hn, not_false_eq_true, if_true, ho]
      simp only [Sem.run_bind, run_part q2 hv, run_part q2 hu, Result.andThen_ok, q1]
      cases r <;> simp
    split
    · have ih := eqCells_yl (i := i + 1) (l := l) (l' := l') (pc := pc') hs' hF
      refine Yl.mono ih fun r hr => ⟨hr.1, fun θ pre pre' xs ys d w p1 p2 e1 e2 => ?_⟩
      obtain ⟨u, v, xs', ys', rfl, rfl, g1, g2, g3⟩ := key θ pre pre' xs ys d w p1 p2 e1 e2
      rw [g3, if_pos rfl]
      have := hr.2 θ (pre ++ [u]) (pre' ++ [v]) xs' ys' d w (by simp [p1]) (by simp [p2]) g1 g2
      simpa using this
    · refine Yl.pure (false, pc') ⟨hs', fun θ pre pre' xs ys d w p1 p2 e1 e2 => ?_⟩
      obtain ⟨u, v, xs', ys', rfl, rfl, g1, g2, g3⟩ := key θ pre pre' xs ys d w p1 p2 e1 e2
      rw [g3, if_neg (by simp)]
  | [], i, [], _ :: _, pc, hs, hf => Yl.no
  | [], i, _ :: _, l', pc, hs, hf => Yl.no
  | f :: F, i, [], l', pc, hs, hf => Yl.no
  | f :: F, i, _ :: _, [], pc, hs, hf => Yl.no
end
end X
end Go.Proofs.YtebfahobllghnaaGreatDoor
