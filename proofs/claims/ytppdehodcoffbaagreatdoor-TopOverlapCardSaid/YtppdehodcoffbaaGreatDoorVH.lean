/-
  What the executor's parts come to: numbers, strings, lists, operands. Over any program.
-/
import Derived.Test.YtppdehodcoffbaaGreatDoorVG
set_option linter.unusedSimpArgs false
set_option linter.unusedVariables false
namespace Go.Proofs.YtppdehodcoffbaaGreatDoor
namespace X
open Go.RowKit B

/-- F hands on one thing, of which Φ holds, whatever stands behind -/
def Yl {α : Type} (F : (α → Bool) → Bool) (Φ : α → Prop) : Prop := ∀ K, F K = true → ∃ x, Φ x ∧ K x = true ∧ ∀ K', F K' = true → K' x = true
theorem Yl.no {α : Type} {Φ : α → Prop} : Yl (fun _ => false) Φ := fun _ h => by cases h
theorem Yl.pure {α : Type} {Φ : α → Prop} (x : α) (h : Φ x) : Yl (fun K => K x) Φ := fun _ hk => ⟨x, h, hk, fun _ h => h⟩
theorem Yl.bind {α β : Type} {F : (α → Bool) → Bool} {G : α → (β → Bool) → Bool} {Φ : α → Prop} {Ψ : β → Prop} (h : Yl F Φ) (hg : ∀ x, Φ x → Yl (G x) Ψ) : Yl (fun K => F fun x => G x K) Ψ := fun K hk => by
  obtain ⟨x, h1, h2, h3⟩ := h _ hk
  obtain ⟨y, g1, g2, g3⟩ := hg x h1 K h2
  exact ⟨y, g1, g2, fun K' hk' => g3 K' (h3 _ hk')⟩
theorem Yl.bind2 {α β γ : Type} {F : (α → β → Bool) → Bool} {G : α → β → (γ → Bool) → Bool} {Φ : α × β → Prop} {Ψ : γ → Prop} (h : Yl (fun K => F fun a b => K (a, b)) Φ) (hg : ∀ a b, Φ (a, b) → Yl (G a b) Ψ) : Yl (fun K => F fun a b => G a b K) Ψ := fun K hk => by
  obtain ⟨⟨a, b⟩, h1, h2, h3⟩ := h (fun r => G r.1 r.2 K) hk
  obtain ⟨y, g1, g2, g3⟩ := hg a b h1 K h2
  exact ⟨y, g1, g2, fun K' hk' => g3 K' (h3 (fun r => G r.1 r.2 K') hk')⟩
theorem Yl.bind3 {α β γ δ : Type} {F : (α → β → γ → Bool) → Bool} {G : α → β → γ → (δ → Bool) → Bool} {Φ : α × β × γ → Prop} {Ψ : δ → Prop} (h : Yl (fun K => F fun a b c => K (a, b, c)) Φ) (hg : ∀ a b c, Φ (a, b, c) → Yl (G a b c) Ψ) : Yl (fun K => F fun a b c => G a b c K) Ψ := fun K hk => by
  obtain ⟨⟨a, b, c⟩, h1, h2, h3⟩ := h (fun r => G r.1 r.2.1 r.2.2 K) hk
  obtain ⟨y, g1, g2, g3⟩ := hg a b c h1 K h2
  exact ⟨y, g1, g2, fun K' hk' => g3 K' (h3 (fun r => G r.1 r.2.1 r.2.2 K') hk')⟩
theorem Yl.map {α β : Type} {F : (α → Bool) → Bool} {Φ : α → Prop} {Ψ : β → Prop} (g : α → β) (h : Yl F Φ) (hg : ∀ x, Φ x → Ψ (g x)) : Yl (fun K => F fun x => K (g x)) Ψ := fun K hk => by
  obtain ⟨x, h1, h2, h3⟩ := h _ hk
  exact ⟨g x, hg x h1, h2, fun K' hk' => h3 _ hk'⟩
theorem Yl.mono {α : Type} {F : (α → Bool) → Bool} {Φ Ψ : α → Prop} (h : Yl F Φ) (hm : ∀ x, Φ x → Ψ x) : Yl F Ψ := fun K hk => by
  obtain ⟨x, h1, h2⟩ := h K hk
  exact ⟨x, hm x h1, h2⟩
theorem Yl.of {α : Type} {F : (α → Bool) → Bool} {Φ : α → Prop} (h : ∀ K, F K = true → Yl F Φ) : Yl F Φ := fun K hk => h K hk K hk

/-! ### Numbers -/
theorem ikEq_iff {k l : IntKind} : ikEq k l = true ↔ k = l := by cases k <;> cases l <;> simp [ikEq]
theorem frc_yl {n : Int} : Yl (frc n) (fun x => x = n) := by
  unfold frc
  split
  · split
    · exact Yl.pure _ rfl
    · exact Yl.pure _ rfl
  · split
    · exact Yl.pure _ rfl
    · exact Yl.pure _ rfl
theorem frn_yl {n : Nat} : Yl (frn n) (fun x => x = n) := by
  unfold frn
  split
  · exact Yl.pure _ rfl
  · exact Yl.pure _ rfl
theorem leI_eq (p q : Int) : leI p q = decide (p ≤ q) := by
  cases p <;> cases q <;> simp only [leI] <;> rw [Bool.eq_iff_iff] <;> simp [Nat.ble_eq] <;> omega
theorem eqI_eq (p q : Int) : eqI p q = decide (p = q) := by
  cases p <;> cases q <;> simp only [eqI] <;> rw [Bool.eq_iff_iff] <;> simp [Nat.beq_eq] <;> omega
theorem leI_iff {p q : Int} : leI p q = true ↔ p ≤ q := by simp [leI_eq]
theorem eqI_iff {p q : Int} : eqI p q = true ↔ p = q := by simp [eqI_eq]

/-! ### Linear expressions -/
section
variable {ρ : Rho}
theorem put1_den {i : Nat} {a : Int} : ∀ {m : List (Nat × Int)}, dts ρ (addT.put1 i a m) = a * ρ.at i + dts ρ m
  | [] => by simp [addT.put1, dts]
  | (j, b) :: m => by
    simp only [addT.put1]
    split
    · rename_i h
      have := Nat.eq_of_beq_eq_true h
      subst this
      split
      · rename_i h2
        have h3 := eqI_iff.1 h2
        simp only [dts]
        have : a * ρ.at i + b * ρ.at i = 0 := by rw [← Int.add_mul, h3, Int.zero_mul]
        omega
      · simp only [dts, Int.add_mul]; omega
    · split
      · simp only [dts]
      · simp only [dts, put1_den (m := m)]; omega
theorem addT_den : ∀ {l m : List (Nat × Int)}, dts ρ (addT l m) = dts ρ l + dts ρ m
  | [], m => by simp [addT, dts]
  | (i, a) :: l, m => by simp only [addT, put1_den, addT_den (l := l), dts]; omega
theorem mulT_den {k : Int} : ∀ {l : List (Nat × Int)}, dts ρ (mulT k l) = k * dts ρ l
  | [] => by simp [mulT, dts]
  | (i, a) :: l => by simp only [mulT, dts, mulT_den (l := l), Int.mul_add, Int.mul_assoc]
theorem add_den {a b : Lin} : (a.add b).den ρ = a.den ρ + b.den ρ := by
  cases a; cases b; simp only [Lin.add, Lin.den, addT_den]; omega
theorem mul_den {k : Int} {a : Lin} : (a.mul k).den ρ = k * a.den ρ := by
  cases a; simp only [Lin.mul, Lin.den, mulT_den, Int.mul_add]
theorem sub_den {a b : Lin} : (a.sub b).den ρ = a.den ρ - b.den ρ := by
  simp only [Lin.sub, add_den, mul_den]; omega
theorem not_den {e : Lin} : e.not.den ρ = -1 - e.den ρ := by
  simp only [Lin.not, add_den, mul_den]; simp only [Lin.den, dts]; omega
theorem const_den {c : Int} : (Lin.mk c []).den ρ = c := by simp [Lin.den, dts]
theorem comb1_sat {a : Int} {p : Lin} {i : Nat} (ha : 0 ≤ a) (hp : 0 ≤ p.den ρ) : ∀ {l : List Lin}, Sat ρ l → Sat ρ (comb1 a p i l)
  | [], _ => by simp [comb1, Sat]
  | q :: l, h => by
    have ih := comb1_sat (a := a) (p := p) (i := i) ha hp (l := l) fun e he => h e (by simp [he])
    simp only [comb1]
    split
    · exact ih
    · rename_i hq
      intro e he
      rcases List.mem_cons.1 he with rfl | he
      · have hq' : ¬ 0 ≤ q.coef i := fun h => by rw [leI_iff.2 h] at hq; cases hq
        rw [add_den, mul_den, mul_den]
        have h1 : 0 ≤ -(q.coef i) * p.den ρ := Int.mul_nonneg (by omega) hp
        have h2 : 0 ≤ a * q.den ρ := Int.mul_nonneg ha (h q (by simp))
        omega
      · exact ih e he
theorem combs_sat {i : Nat} {all : List Lin} (hall : Sat ρ all) : ∀ {l : List Lin}, Sat ρ l → Sat ρ (combs i all l)
  | [], _ => by simp [combs, Sat]
  | p :: l, h => by
    have ih := combs_sat (i := i) hall (l := l) fun e he => h e (by simp [he])
    simp only [combs]
    split
    · exact ih
    · rename_i hp
      have hp' : ¬ p.coef i ≤ 0 := fun h => by rw [leI_iff.2 h] at hp; cases hp
      intro e he
      rcases List.mem_append.1 he with he | he
      · exact comb1_sat (by omega) (h p (by simp)) hall e he
      · exact ih e he
theorem without_sat {i : Nat} : ∀ {l : List Lin}, Sat ρ l → Sat ρ (without i l)
  | [], _ => by simp [without, Sat]
  | p :: l, h => by
    have ih := without_sat (i := i) (l := l) fun e he => h e (by simp [he])
    simp only [without]
    split
    · intro e he
      rcases List.mem_cons.1 he with rfl | he
      · exact h e (by simp)
      · exact ih e he
    · exact ih
theorem absurdL_no : ∀ {l : List Lin}, absurdL l = true → ¬ Sat ρ l
  | [], h => by cases h
  | .mk c [] :: l, h => by
    simp only [absurdL] at h
    split at h
    · exact fun hs => absurdL_no h fun e he => hs e (by simp [he])
    · rename_i hc
      intro hs
      have := hs _ (List.mem_cons_self)
      rw [const_den] at this
      rw [leI_iff.2 this] at hc; cases hc
  | .mk c (t :: ts) :: l, h => by
    simp only [absurdL] at h
    exact fun hs => absurdL_no h fun e he => hs e (by simp [he])
theorem fm_no : ∀ {f : Nat} {l : List Lin}, fm f l = true → ¬ Sat ρ l
  | 0, l, h => absurdL_no h
  | f + 1, l, h => by
    simp only [fm] at h
    split at h
    · rename_i ha; exact absurdL_no ha
    · split at h
      · cases h
      · intro hs
        refine fm_no h fun e he => ?_
        rcases List.mem_append.1 he with he | he
        · exact combs_sat hs hs e he
        · exact without_sat hs e he
theorem proves_ok {pc : PC} {e : Lin} (h : proves pc e = true) (hs : Sat ρ pc) : 0 ≤ e.den ρ := by
  refine Classical.byContradiction fun hn => fm_no (ρ := ρ) h fun x hx => ?_
  rcases List.mem_cons.1 hx with rfl | hx
  · rw [not_den]; omega
  · exact hs x hx
theorem Sat.cons {pc : PC} {e : Lin} (h : Sat ρ pc) (he : 0 ≤ e.den ρ) : Sat ρ (e :: pc) := fun x hx => by
  rcases List.mem_cons.1 hx with rfl | hx
  · exact he
  · exact h x hx
theorem dec2_yl {pc : PC} {e : Lin} (hs : Sat ρ pc) : Yl (fun K => dec2 pc e fun b pc => K (b, pc)) fun r => r.1 = decide (0 ≤ e.den ρ) ∧ Sat ρ r.2 := by
  unfold dec2
  split
  · exact Yl.pure (_, _) ⟨by rw [leI_eq, const_den], hs⟩
  · split
    · rename_i h
      exact Yl.pure (_, _) ⟨by simp [proves_ok h hs], hs⟩
    · split
      · rename_i h
        have := proves_ok h hs
        rw [not_den] at this
        exact Yl.pure (_, _) ⟨by simp; omega, hs⟩
      · intro K hk
        simp only [Bool.and_eq_true] at hk
        by_cases h : 0 ≤ e.den ρ
        · exact ⟨(true, e :: pc), ⟨by simp [h], hs.cons h⟩, hk.1, fun K' hk' => by simp only [Bool.and_eq_true] at hk'; exact hk'.1⟩
        · exact ⟨(false, e.not :: pc), ⟨by simp; omega, hs.cons (by rw [not_den]; omega)⟩, hk.2, fun K' hk' => by simp only [Bool.and_eq_true] at hk'; exact hk'.2⟩
theorem svx_den {θ : Th} {k : IntKind} {e : Lin} : den ρ θ (svx k e) = some (.int k (e.den ρ)) := by
  unfold svx
  split
  · simp [den, const_den]
  · simp [den]

/-! ### Strings -/
theorem denS_nil : denS ρ [] = [] := rfl
theorem denS_cons {p : Pc} {l : Str} : denS ρ (p :: l) = p.den ρ ++ denS ρ l := by simp [denS]
theorem denS_app {l m : Str} : denS ρ (l ++ m) = denS ρ l ++ denS ρ m := by simp [denS]
theorem lenS_den : ∀ {l : Str}, (lenS l).den ρ = ((denS ρ l).length : Int)
  | [] => by simp [lenS, denS, Lin.den, dts]
  | .c n :: l => by rw [lenS, add_den, lenS_den (l := l), denS_cons]; simp [Lin.den, dts, Pc.den]; omega
  | .a i :: l => by
    rw [lenS, add_den, lenS_den (l := l), denS_cons]
    simp only [Lin.den, dts, Rho.at_l, Pc.den]
    simp
theorem lenN_den : ∀ {l : Str} {n k : Nat}, lenN l n = some k → k = n + (denS ρ l).length
  | [], n, k, h => by simp [lenN] at h; simp [denS, h]
  | .c a :: l, n, k, h => by
    simp only [lenN] at h
    have := lenN_den h
    rw [this, denS_cons]; simp [Pc.den]; omega
  | .a i :: l, n, k, h => by simp [lenN] at h
theorem eqStr_ok : ∀ {a b : Str}, eqStr a b = true → a = b
  | [], [], _ => rfl
  | x :: l, y :: m, h => by
    simp only [eqStr] at h
    split at h
    · rename_i hp
      have : x = y := by
        cases x <;> cases y <;> simp only [eqP, Bool.false_eq_true] at hp
        · rw [Nat.eq_of_beq_eq_true hp]
        · rw [Nat.eq_of_beq_eq_true hp]
      rw [this, eqStr_ok h]
    · cases h
  | [], _ :: _, h => by simp [eqStr] at h
  | _ :: _, [], h => by simp [eqStr] at h
theorem known_ne : ∀ {a b : Str}, knownS a = true → knownS b = true → denS ρ a = denS ρ b → eqStr a b = true
  | [], [], _, _, _ => rfl
  | .c x :: l, .c y :: m, ha, hb, h => by
    simp only [knownS] at ha hb
    split at ha
    · rename_i h1
      split at hb
      · rename_i h2
        rw [denS_cons, denS_cons] at h
        simp only [Pc.den, List.cons_append, List.nil_append, List.cons.injEq] at h
        have e : x = y := by
          have h3 := congrArg UInt8.toNat h.1
          have := Nat.le_of_ble_eq_true h1
          have := Nat.le_of_ble_eq_true h2
          simp at h3
          omega
        subst e
        simp [eqStr, eqP, known_ne ha hb h.2]
      · cases hb
    · cases ha
  | [], .c y :: m, _, _, h => by rw [denS_cons] at h; simp [Pc.den, denS] at h
  | .c x :: l, [], _, _, h => by rw [denS_cons] at h; simp [Pc.den, denS] at h
  | .a i :: l, _, ha, _, _ => by simp [knownS] at ha
  | _, .a i :: l, _, hb, _ => by simp [knownS] at hb
theorem eqS_yl {pc : PC} {a b : Str} (hs : Sat ρ pc) : Yl (eqS pc a b) fun r => r = decide (denS ρ a = denS ρ b) := by
  unfold eqS
  split
  · rename_i h
    exact Yl.pure _ (by simp [eqStr_ok h])
  · rename_i hne
    split
    · rename_i h
      simp only [Bool.and_eq_true] at h
      refine Yl.pure _ ?_
      have : ¬ denS ρ a = denS ρ b := fun e => by rw [known_ne h.1 h.2 e] at hne; cases hne
      simp [this]
    · split
      · rename_i h
        have h1 := proves_ok h hs
        rw [not_den, sub_den, lenS_den, lenS_den] at h1
        refine Yl.pure _ ?_
        have : ¬ denS ρ a = denS ρ b := fun e => by rw [e] at h1; omega
        simp [this]
      · split
        · rename_i h
          have h1 := proves_ok h hs
          rw [not_den, sub_den, lenS_den, lenS_den] at h1
          refine Yl.pure _ ?_
          have : ¬ denS ρ a = denS ρ b := fun e => by rw [e] at h1; omega
          simp [this]
        · exact Yl.no
theorem cutN_yl : ∀ {l : Str} {n : Nat}, Yl (fun K => cutN l n fun x y => K (x, y)) fun r => l = r.1 ++ r.2 ∧ (denS ρ r.1).length = n
  | l, 0 => by
    have : (fun K => cutN l 0 fun x y => K (x, y)) = fun (K : Str × Str → Bool) => K ([], l) := by funext K; cases l <;> rfl
    rw [this]
    exact Yl.pure (_, _) ⟨rfl, rfl⟩
  | .c a :: l, n + 1 => by
    simp only [cutN]
    have ih := cutN_yl (l := l) (n := n)
    refine Yl.map (fun r : Str × Str => (.c a :: r.1, r.2)) ih fun r hr => ?_
    refine ⟨by simp [hr.1], ?_⟩
    rw [denS_cons]; simp [Pc.den, hr.2]
  | [], n + 1 => Yl.no
  | .a i :: l, n + 1 => Yl.no
theorem cutL_yl : ∀ {l : Str} {e : Lin}, Yl (fun K => cutL l e fun x y => K (x, y)) fun r => l = r.1 ++ r.2 ∧ ((denS ρ r.1).length : Int) = e.den ρ
  | [], .mk c [] => by
    simp only [cutL]
    split
    · rename_i h
      exact Yl.pure (_, _) ⟨rfl, by rw [const_den, eqI_iff.1 h]; rfl⟩
    · exact Yl.no
  | .c a :: l, .mk c [] => by
    simp only [cutL]
    split
    · rename_i h
      exact Yl.pure (_, _) ⟨rfl, by rw [const_den, eqI_iff.1 h]; rfl⟩
    · have ih := cutL_yl (l := l) (e := (Lin.mk (c - 1) []))
      refine Yl.map (fun r : Str × Str => (.c a :: r.1, r.2)) ih fun r hr => ?_
      refine ⟨by simp [hr.1], ?_⟩
      have := hr.2
      rw [const_den] at this
      rw [denS_cons, const_den]; simp [Pc.den]; omega
  | .a i :: l, .mk c [] => by
    simp only [cutL]
    split
    · rename_i h
      exact Yl.pure (_, _) ⟨rfl, by rw [const_den, eqI_iff.1 h]; rfl⟩
    · exact Yl.no
  | .a i :: l, .mk c (t :: ts) => by
    simp only [cutL]
    have ih := cutL_yl (l := l) (e := ((Lin.mk c (t :: ts)).add (.mk 0 [(4 * i + 1, -1)])))
    refine Yl.map (fun r : Str × Str => (.a i :: r.1, r.2)) ih fun r hr => ?_
    refine ⟨by simp [hr.1], ?_⟩
    have h1 := hr.2
    have h2 := lenS_den (ρ := ρ) (l := [.a i])
    simp only [lenS, add_den] at h2
    simp only [Lin.den, dts, denS_cons, denS_nil, List.append_nil] at h2
    rw [add_den] at h1
    rw [denS_cons, List.length_append]
    simp only [Lin.den, dts] at h1 ⊢
    omega
  | .c a :: l, .mk c (t :: ts) => by
    simp only [cutL]
    have ih := cutL_yl (l := l) (e := (Lin.mk (c - 1) (t :: ts)))
    refine Yl.map (fun r : Str × Str => (.c a :: r.1, r.2)) ih fun r hr => ?_
    refine ⟨by simp [hr.1], ?_⟩
    have h1 := hr.2
    rw [denS_cons, List.length_append]
    simp only [Lin.den] at h1 ⊢
    simp [Pc.den]; omega
  | [], .mk c (t :: ts) => Yl.no
theorem nthS_yl : ∀ {l : Str} {n : Nat}, Yl (nthS l n) fun a => (denS ρ l)[n]? = some (UInt8.ofNat a) ∧ a ≤ 255
  | .c a :: l, 0 => by
    simp only [nthS]
    split
    · rename_i h
      exact Yl.pure _ ⟨by rw [denS_cons]; simp [Pc.den], Nat.le_of_ble_eq_true h⟩
    · exact Yl.no
  | .c a :: l, n + 1 => by
    simp only [nthS]
    exact (nthS_yl (l := l) (n := n)).mono fun x hx => ⟨by rw [denS_cons]; simpa [Pc.den] using hx.1, hx.2⟩
  | [], n => by cases n <;> exact Yl.no
  | .a i :: l, n => by cases n <;> exact Yl.no
theorem appS_yl : ∀ {l m : Str}, Yl (appS l m) fun r => r = l ++ m
  | [], m => Yl.pure _ rfl
  | a :: l, m => by
    simp only [appS]
    exact Yl.bind appS_yl fun r hr => Yl.pure _ (by simp [hr])
end

/-! ### Lists -/
theorem nthC_yl : ∀ {l : List SV} {i : Nat}, Yl (nthC l i) fun v => l[i]? = some v
  | [], _ => Yl.no
  | a :: l, 0 => Yl.pure a rfl
  | a :: l, i + 1 => nthC_yl (l := l)
theorem takeC_yl : ∀ {l : List SV} {n : Nat}, Yl (takeC l n) fun r => n ≤ l.length ∧ r = l.take n
  | l, 0 => by
    have : takeC l 0 = fun K => K [] := by funext K; cases l <;> rfl
    rw [this]; exact Yl.pure _ ⟨Nat.zero_le _, by simp⟩
  | [], n + 1 => Yl.no
  | a :: l, n + 1 => by
    have : takeC (a :: l) (n + 1) = fun K => takeC l n fun r => K (a :: r) := rfl
    rw [this]
    exact Yl.bind takeC_yl fun r hr => Yl.pure _ ⟨by simp; omega, by simp [hr.2]⟩
theorem dropC_yl : ∀ {l : List SV} {n : Nat}, Yl (dropC l n) fun r => n ≤ l.length ∧ r = l.drop n
  | l, 0 => by
    have : dropC l 0 = fun K => K l := by funext K; cases l <;> rfl
    rw [this]; exact Yl.pure _ ⟨Nat.zero_le _, by simp⟩
  | [], n + 1 => Yl.no
  | a :: l, n + 1 => (dropC_yl (l := l) (n := n)).mono fun r hr => ⟨by simp; omega, by simp [hr.2]⟩
theorem segC_yl {l : List SV} {o n : Nat} : Yl (segC l o n) fun r => o + n ≤ l.length ∧ r = (l.drop o).take n := by
  unfold segC
  refine Yl.bind dropC_yl fun r hr => takeC_yl.mono fun q hq => ?_
  rw [hr.2] at hq
  have := hq.1
  simp at this
  exact ⟨by omega, hq.2⟩
theorem ovrC_yl : ∀ {l vs : List SV}, Yl (ovrC l vs) fun r => vs.length ≤ l.length ∧ r = vs ++ l.drop vs.length
  | l, [] => by
    have : ovrC l [] = fun K => K l := by funext K; cases l <;> rfl
    rw [this]; exact Yl.pure _ ⟨Nat.zero_le _, by simp⟩
  | [], _ :: _ => Yl.no
  | a :: l, v :: vs => by
    have : ovrC (a :: l) (v :: vs) = fun K => ovrC l vs fun r => K (v :: r) := rfl
    rw [this]
    exact Yl.bind ovrC_yl fun r hr => Yl.pure _ ⟨by simp; omega, by simp [hr.2]⟩
theorem setC_yl : ∀ {l : List SV} {o : Nat} {vs : List SV}, Yl (setC l o vs) fun r => o + vs.length ≤ l.length ∧ r = l.take o ++ vs ++ l.drop (o + vs.length)
  | l, 0, vs => by
    have : setC l 0 vs = ovrC l vs := by funext K; cases l <;> rfl
    rw [this]
    exact ovrC_yl.mono fun r hr => ⟨by omega, by simp [hr.2]⟩
  | [], o + 1, vs => Yl.no
  | a :: l, o + 1, vs => by
    have : setC (a :: l) (o + 1) vs = fun K => setC l o vs fun r => K (a :: r) := rfl
    rw [this]
    refine Yl.bind setC_yl fun r hr => Yl.pure _ ⟨by simp; omega, ?_⟩
    rw [show o + 1 + vs.length = o + vs.length + 1 by omega]
    simp [hr.2]
theorem appC_yl : ∀ {l m : List SV}, Yl (appC l m) fun r => r = l ++ m
  | [], m => Yl.pure _ rfl
  | a :: l, m => by
    have : appC (a :: l) m = fun K => appC l m fun r => K (a :: r) := rfl
    rw [this]
    exact Yl.bind appC_yl fun r hr => Yl.pure _ (by simp [hr])
theorem lenC_eq : ∀ {l : List SV} {n : Nat}, lenC l n = n + l.length
  | [], n => rfl
  | a :: l, n => by rw [lenC, lenC_eq (l := l)]; simp; omega
theorem lenC0 {l : List SV} : lenC l 0 = l.length := by rw [lenC_eq]; omega

/-! ### Constants, operands, types -/
section
variable {ρ : Rho} {θ : Th}
theorem bstr_data (s : ByteArray) : bstr s.data.toList = s := by cases s; simp [bstr]
theorem denS_bytes : ∀ (l : List UInt8), denS ρ (l.map fun b => .c b.toNat) = l
  | [] => rfl
  | b :: l => by rw [List.map_cons, denS_cons, denS_bytes l]; simp [Pc.den]
theorem strC_yl : ∀ {l : List UInt8}, Yl (strC l) fun r => r = l.map fun b => .c b.toNat
  | [] => Yl.pure _ rfl
  | b :: l => by
    have : strC (b :: l) = fun K => frn b.toNat fun n => strC l fun r => K (.c n :: r) := rfl
    rw [this]
    exact Yl.bind frn_yl fun n hn => Yl.bind strC_yl fun r hr => Yl.pure _ (by simp [hr, hn])
theorem cst_ok {v : Value} {a : SV} (h : cst v = some a) : den ρ θ a = some v := by
  unfold cst at h
  split at h <;> cases h <;> first | rfl | skip
  simp [den, denS_bytes, bstr_data]
theorem cst_one {v : Value} {a : SV} (h : cst v = some a) : v.oneCell' = true ∧ oneV a = true := by
  unfold cst at h
  split at h <;> cases h <;> exact ⟨rfl, rfl⟩
theorem cstL_ok : ∀ {l : List Value} {m : List SV}, cstL l = some m → dens ρ θ m = some l ∧ (∀ v ∈ l, v.oneCell' = true) ∧ m.length = l.length
  | [], m, h => by simp [cstL] at h; subst h; exact ⟨rfl, by simp, rfl⟩
  | v :: l, m, h => by
    simp only [cstL] at h
    split at h
    · cases h
    · rename_i a ha
      split at h
      · cases h
      · rename_i r hr
        simp at h; subst h
        obtain ⟨h1, h2, h3⟩ := cstL_ok hr
        refine ⟨by simp [dens, cst_ok ha, h1], fun u hu => ?_, by simp [h3]⟩
        rcases List.mem_cons.1 hu with rfl | hu
        · exact (cst_one ha).1
        · exact h2 u hu
theorem cstK_yl {v : Value} : Yl (cstK v) fun a => ∀ ρ θ, den ρ θ a = some v := by
  unfold cstK
  split
  · exact Yl.pure _ fun _ _ => rfl
  · split
    · exact Yl.pure _ fun _ _ => rfl
    · exact Yl.pure _ fun _ _ => rfl
  · exact Yl.bind strC_yl fun r hr => Yl.pure _ fun ρ θ => by simp [den, hr, denS_bytes, bstr_data]
  · exact Yl.pure _ fun _ _ => rfl
  · exact Yl.pure _ fun _ _ => rfl
  · exact Yl.pure _ fun _ _ => rfl
  · exact Yl.pure _ fun _ _ => rfl
  · exact Yl.pure _ fun _ _ => rfl
  · split
    · rename_i l hl
      exact Yl.pure _ fun ρ θ => by simp [den, (cstL_ok (ρ := ρ) (θ := θ) hl).1]
    · exact Yl.no
  · exact Yl.no
end
/-- an operand comes to v -/
def EvOk (ρ : Rho) (s : Tr SV) (x : Operand) (v : SV) : Prop := ∀ (θ : Th) (a : Act), (∀ k ∈ rdO x, ∀ sv, s.get k = some sv → den ρ θ sv = some (get a k)) → den ρ θ v = some (a.eval x)
def EvsOk (ρ : Rho) (s : Tr SV) (xs : List Operand) (vs : List SV) : Prop := ∀ (θ : Th) (a : Act), (∀ k ∈ rdOs xs, ∀ sv, s.get k = some sv → den ρ θ sv = some (get a k)) → dens ρ θ vs = some (xs.map a.eval)
theorem evO_yl {ρ : Rho} {s : Tr SV} {x : Operand} : Yl (evO s x) (EvOk ρ s x) := by
  unfold evO
  split
  · rename_i t
    split
    · rename_i v hv
      exact Yl.pure v fun θ a h => by simpa [B.eval_tmp] using h t (by simp [rdO]) v hv
    · exact Yl.no
  · exact cstK_yl.mono fun v hv θ a _ => hv ρ θ
  · exact Yl.pure _ fun θ a _ => rfl
  · exact Yl.pure _ fun θ a _ => rfl
theorem evL_yl {ρ : Rho} {s : Tr SV} : ∀ {xs : List Operand}, Yl (evL s xs) (EvsOk ρ s xs)
  | [] => Yl.pure _ fun θ a _ => rfl
  | x :: l => by
    have : evL s (x :: l) = fun K => evO s x fun v => evL s l fun vs => K (v :: vs) := rfl
    rw [this]
    refine Yl.bind (evO_yl (ρ := ρ)) fun v hv => Yl.bind (evL_yl (ρ := ρ)) fun vs hvs => Yl.pure _ fun θ a h => ?_
    simp only [dens, List.map_cons]
    rw [hv θ a fun k hk => h k (by simp [rdOs, hk]), hvs θ a fun k hk => h k (by simp only [rdOs, List.flatMap_cons, List.mem_append]; exact .inr hk)]
    rfl
structure TyOk (P : Program) (t : Nat) (y : Ty) where
  i : TypeInfo
  d : TypeDesc
  z : Value
  hi : P.info? t = some i
  hd : P.underlying t = some d
  hz : i.zero = some z
  sz : y.sz = i.size
  agg : y.agg = isAggD d
  by' : y.by' = i.bytes
  kind : y.kind = tkOf d
  zs : cstL z.cells.toList = some y.zero
  zl : z.cells.size = i.size
  za : isAggV z = isAggD d
theorem mkTy_ok {P : Program} {t : Nat} {y : Ty} (h : mkTy P t = some y) : Nonempty (TyOk P t y) := by
  unfold mkTy at h
  split at h
  · cases h
  · rename_i i hi
    split at h
    · cases h
    · rename_i d hd
      split at h
      · cases h
      · rename_i z hz
        split at h
        · cases h
        · rename_i zs hzs
          split at h
          · rename_i hc
            simp only [Bool.and_eq_true, Nat.beq_eq] at hc
            cases h
            exact ⟨⟨i, d, z, hi, hd, hz, rfl, rfl, rfl, rfl, hzs, hc.1, eq_of_beq hc.2⟩⟩
          · cases h
section
variable {P : Program} {t : Nat} {y : Ty}
theorem TyOk.size (h : TyOk P t y) (w : World) : (sizeOf t).run P w = .ok y.sz w := by simp [sizeOf, typeInfo, h.hi, h.sz]
theorem TyOk.isAgg (h : TyOk P t y) (w : World) : (Go.isAgg t).run P w = .ok y.agg w := by
  unfold Go.isAgg
  rw [Sem.run_bind, run_underlying h.hd, Result.andThen_ok, h.agg]
  unfold isAggD
  cases h.d <;> simp
theorem TyOk.zero (h : TyOk P t y) (w : World) : (zeroValue t).run P w = .ok h.z w := by simp [zeroValue, typeInfo, h.hi, h.hz]
theorem TyOk.zlen (h : TyOk P t y) : y.zero.length = y.sz := by
  have := (cstL_ok (ρ := ⟨fun _ => 0, fun _ => []⟩) (θ := fun _ => none) h.zs).2.2
  rw [this, h.sz, ← h.zl]; simp
theorem kindT_ok {k : TK} (h : kindT P t = k) (hk : k ≠ .other) : ∃ d, P.underlying t = some d ∧ k = tkOf d := by
  unfold kindT at h
  split at h
  · rename_i y hy
    obtain ⟨q⟩ := mkTy_ok hy
    exact ⟨q.d, q.hd, by rw [← h, q.kind]⟩
  · exact absurd h.symm hk
theorem tk_int {d : TypeDesc} {k : IntKind} (h : TK.int k = tkOf d) : d = .int k := by cases d <;> simp [tkOf] at h; rw [h]
theorem tk_bool {d : TypeDesc} (h : TK.bool = tkOf d) : d = .bool := by cases d <;> simp [tkOf] at h; rfl
theorem tk_str {d : TypeDesc} (h : TK.str = tkOf d) : d = .string := by cases d <;> simp [tkOf] at h; rfl
theorem tk_slice {d : TypeDesc} {e : Nat} (h : TK.slice e = tkOf d) : d = .slice e := by cases d <;> simp [tkOf] at h; rw [h]
theorem tk_ptr {d : TypeDesc} {e : Nat} (h : TK.ptr e = tkOf d) : d = .pointer e := by cases d <;> simp [tkOf] at h; rw [h]
theorem tk_struct {d : TypeDesc} {fs : List (Nat × Nat)} (h : TK.struct fs = tkOf d) : ∃ F : Array Field, d = .struct F ∧ fs = F.toList.map fun f => (f.offset, f.type) := by cases d <;> simp [tkOf] at h; exact ⟨_, rfl, h⟩
theorem tk_arr {d : TypeDesc} {n e : Nat} (h : TK.arr n e = tkOf d) : d = .array n e := by cases d <;> simp [tkOf] at h; rw [h.1, h.2]
theorem tk_map {d : TypeDesc} {k v : Nat} (h : TK.map k v = tkOf d) : d = .map k v := by cases d <;> simp [tkOf] at h; rw [h.1, h.2]
theorem tk_fn {d : TypeDesc} (h : TK.fn = tkOf d) : ∃ a b c, d = .func a b c := by cases d <;> simp [tkOf] at h; exact ⟨_, _, _, rfl⟩
theorem tk_upt {d : TypeDesc} (h : TK.upt = tkOf d) : d = .unsafePointer := by cases d <;> simp [tkOf] at h; rfl
end
end X
end Go.Proofs.YtppdehodcoffbaaGreatDoor
