/-
  Drawn regions: what may change places. Over any program.
-/
import Derived.Test.YtppdehodcoffbaaGreatDoorVU
set_option linter.unusedSimpArgs false
set_option linter.unusedVariables false
namespace Go.Proofs.YtppdehodcoffbaaGreatDoor
namespace X
open Go.RowKit B

theorem eqEs_ok : ∀ {l m : List (SV × SV × Nat)}, eqEs l m = true → l = m
  | [], [], _ => rfl
  | (a, b, n) :: l, (c, d, k) :: m, h => by
    simp only [eqEs, Bool.and_eq_true, Nat.beq_eq] at h
    obtain ⟨⟨⟨h1, h2⟩, rfl⟩, h4⟩ := h
    rw [eqV_ok h1, eqV_ok h2, eqEs_ok h4]
  | [], _ :: _, h => by cases h
  | _ :: _, [], h => by cases h
theorem eqBlk_ok {a b : Option Blk} (h : eqBlk a b = true) : a = b := by
  unfold eqBlk at h
  split at h
  · rfl
  · simp only [Bool.and_eq_true, Nat.beq_eq, beq_iff_eq] at h
    obtain ⟨⟨rfl, h2⟩, rfl⟩ := h
    rw [eqVs_ok h2]
  · simp only [Bool.and_eq_true, Nat.beq_eq] at h
    obtain ⟨rfl, h2⟩ := h
    rw [eqStr_ok h2]
  · simp only [Bool.and_eq_true, Nat.beq_eq] at h
    obtain ⟨h2, rfl⟩ := h
    rw [eqEs_ok h2]
  · cases h
theorem memN_iff {t : Nat} : ∀ {l : List Nat}, memN t l = true ↔ t ∈ l
  | [] => by simp [memN]
  | k :: l => by
    simp only [memN]
    split
    · rename_i h
      have := Nat.eq_of_beq_eq_true h
      simp [this]
    · rename_i h
      have := Nat.ne_of_beq_eq_false h
      rw [memN_iff (l := l)]
      simp [Ne.symm this]
theorem memN_not {t : Nat} {l : List Nat} : (!memN t l) = true ↔ t ∉ l := by
  rw [Bool.not_eq_true', ← memN_iff]; simp
theorem apartN_ok {m : List Nat} : ∀ {l : List Nat}, apartN l m = true → ∀ t ∈ l, t ∉ m
  | [], _, t, h => by cases h
  | k :: l, h, t, ht => by
    simp only [apartN, Bool.and_eq_true] at h
    rcases List.mem_cons.1 ht with rfl | ht
    · exact memN_not.1 h.1
    · exact apartN_ok h.2 t ht
theorem newTo_ok {m0 m1 : Mem} : ∀ {l : List Nat}, newTo m0 m1 l = true → ∀ t ∈ l, m0.get t = none ∧ m1.get t = none
  | [], _, t, h => by cases h
  | k :: l, h, t, ht => by
    simp only [newTo] at h
    split at h
    · rename_i h1 h2
      rcases List.mem_cons.1 ht with rfl | ht
      · exact ⟨h1, h2⟩
      · exact newTo_ok h t ht
    · cases h

structure IndM (x y : TE) : Prop where
  m1 : ∀ t, x.wr t → ¬ y.wr t ∧ ¬ y.rd t
  m2 : ∀ t, y.wr t → ¬ x.rd t
section
variable {i j : Nat} {x y : TE} {a b : FE}
theorem FeOf.tcw (h : FeOf i x a) {t : Nat} (hw : x.wr t) : tc a.ft t := by
  unfold TE.wr at hw
  rw [h.r, h.r'] at hw
  exact Classical.byContradiction fun hn => hw (by rw [subM_out hn, subM_out hn])
theorem FeOf.tcr (h : FeOf i x a) {t : Nat} (hw : x.rd t) : tc a.ft t := by
  unfold TE.rd at hw
  rw [h.r] at hw
  exact Classical.byContradiction fun hn => hw (subM_out hn)
theorem FeOf.nw (h : FeOf i x a) {t : Nat} (he : a.m0.get t = a.m1.get t) : ¬ x.wr t := fun hw => by
  have ht := h.tcw hw
  unfold TE.wr at hw
  rw [h.r, h.r', subM_in ht, subM_in ht] at hw
  exact hw he
theorem FeOf.nr (h : FeOf i x a) {t : Nat} (he : a.m0.get t = none) : ¬ x.rd t := fun hw => by
  have ht := h.tcr hw
  unfold TE.rd at hw
  rw [h.r, subM_in ht] at hw
  exact hw he
theorem FeOf.still (h : FeOf i x a) {g : Nat} (he : a.ft = .r g) (t : Nat) : ¬ x.wr t := h.nw (by rw [h.rd g he])
theorem FeOf.none (h : FeOf i x a) (he : a.ft = .n) (t : Nat) : ¬ x.wr t ∧ ¬ x.rd t :=
  ⟨fun hw => (by have := h.tcw hw; rw [he] at this; exact this), fun hw => (by have := h.tcr hw; rw [he] at this; exact this)⟩
theorem indFt_ok (hx : FeOf i x a) (hy : FeOf j y b) (h : a.ft = .n ∨ b.ft = .n ∨ indFt a b = true) : IndM x y := by
  rcases h with h | h | h
  · exact ⟨fun t ht => absurd ht (hx.none h t).1, fun t _ => (hx.none h t).2⟩
  · exact ⟨fun t _ => hy.none h t, fun t ht => absurd ht (hy.none h t).1⟩
  · unfold indFt at h
    split at h
    · rename_i e; exact ⟨fun t ht => absurd ht (hx.none e t).1, fun t _ => (hx.none e t).2⟩
    · rename_i e _; exact ⟨fun t _ => hy.none e t, fun t ht => absurd ht (hy.none e t).1⟩
    · rename_i e1 e2
      exact ⟨fun t ht => absurd ht (hx.still e1 t), fun t ht => absurd ht (hy.still e2 t)⟩
    · rename_i g ts e1 e2
      refine ⟨fun t ht => absurd ht (hx.still e1 t), fun t ht hr => ?_⟩
      have h1 := hy.tcw ht
      have h2 := hx.tcr hr
      rw [e2] at h1; rw [e1] at h2
      have h2 : t = g := h2
      subst h2
      exact memN_not.1 h h1
    · rename_i ts g e1 e2
      refine ⟨fun t ht => ⟨hy.still e2 t, fun hr => ?_⟩, fun t ht => absurd ht (hy.still e2 t)⟩
      have h1 := hx.tcw ht
      have h2 := hy.tcr hr
      rw [e1] at h1; rw [e2] at h2
      have h2 : t = g := h2
      subst h2
      exact memN_not.1 h h1
    · rename_i ts us e1 e2
      have ap := apartN_ok h
      refine ⟨fun t ht => ?_, fun t ht hr => ?_⟩
      · have h1 := hx.tcw ht
        rw [e1] at h1
        refine ⟨fun hw => ?_, fun hr => ?_⟩
        · have h2 := hy.tcw hw; rw [e2] at h2; exact ap t h1 h2
        · have h2 := hy.tcr hr; rw [e2] at h2; exact ap t h1 h2
      · have h1 := hx.tcr hr
        have h2 := hy.tcw ht
        rw [e1] at h1; rw [e2] at h2
        exact ap t h1 h2
    · rename_i g e1 e2
      refine ⟨fun t ht => ⟨hy.still e2 t, fun hr => ?_⟩, fun t ht => absurd ht (hy.still e2 t)⟩
      have h2 := hy.tcr hr
      rw [e2] at h2
      have h2 : t = g := h2
      subst h2
      exact hx.nw (eqBlk_ok h) ht
    · rename_i g e1 e2
      refine ⟨fun t ht => absurd ht (hx.still e1 t), fun t ht hr => ?_⟩
      have h2 := hx.tcr hr
      rw [e1] at h2
      have h2 : t = g := h2
      subst h2
      exact hy.nw (eqBlk_ok h) ht
    · rename_i ts e1 e2
      have nt := newTo_ok h
      refine ⟨fun t ht => ⟨fun hw => ?_, fun hr => ?_⟩, fun t ht hr => ?_⟩
      · have h2 := hy.tcw hw; rw [e2] at h2
        obtain ⟨q1, q2⟩ := nt t h2
        exact hx.nw (by rw [q1, q2]) ht
      · have h2 := hy.tcr hr; rw [e2] at h2
        obtain ⟨q1, q2⟩ := nt t h2
        exact hx.nw (by rw [q1, q2]) ht
      · have h2 := hy.tcw ht; rw [e2] at h2
        exact hx.nr (nt t h2).1 hr
    · rename_i ts e1 e2
      have nt := newTo_ok h
      refine ⟨fun t ht => ?_, fun t ht hr => ?_⟩
      · have h2 := hx.tcw ht; rw [e1] at h2
        obtain ⟨q1, q2⟩ := nt t h2
        exact ⟨hy.nw (by rw [q1, q2]), hy.nr q1⟩
      · have h2 := hx.tcr hr; rw [e1] at h2
        obtain ⟨q1, q2⟩ := nt t h2
        exact hy.nw (by rw [q1, q2]) ht
    · cases h
end

/-! ### Any two -/
theorem okWith_ok {bf : List Nat} {x : FE} : ∀ {l : List FE}, okWith bf x l = true → ∀ y ∈ l, (bf.getD x.i 0).testBit y.i = true ∨ indFt y x = true
  | [], _, y, h => by cases h
  | z :: l, h, y, hy => by
    simp only [okWith, Bool.and_eq_true, Bool.or_eq_true] at h
    rcases List.mem_cons.1 hy with rfl | hy
    · exact h.1
    · exact okWith_ok h.2 y hy
theorem okAcc_ok {bf : List Nat} : ∀ {l : List FE}, okAcc bf l = true → l.Pairwise fun x y => (bf.getD x.i 0).testBit y.i = true ∨ indFt y x = true
  | [], _ => .nil
  | x :: l, h => by
    simp only [okAcc, Bool.and_eq_true] at h
    exact .cons (okWith_ok h.1) (okAcc_ok h.2)
theorem okAcc_two {bf : List Nat} {fes : List FE} (h : okAcc bf ((fes.filter isT).reverse ++ []) = true) {i j : Nat} {x y : FE} (hij : i < j) (hx : fes[i]? = some x) (hy : fes[j]? = some y) : (bf.getD y.i 0).testBit x.i = true ∨ x.ft = .n ∨ y.ft = .n ∨ indFt x y = true := by
  have h1 := okAcc_ok h
  rw [List.append_nil, List.pairwise_reverse, List.pairwise_filter] at h1
  obtain ⟨hi, ex⟩ := List.getElem?_eq_some_iff.1 hx
  obtain ⟨hj, ey⟩ := List.getElem?_eq_some_iff.1 hy
  have h2 := List.pairwise_iff_getElem.1 h1 i j hi hj hij
  rw [ex, ey] at h2
  have nT : ∀ {z : FE}, z.ft ≠ .n → isT z = true := fun {z} hz => by
    unfold isT
    split
    · rename_i e; exact absurd e hz
    · rfl
  by_cases e1 : x.ft = .n
  · exact .inr (.inl e1)
  · by_cases e2 : y.ft = .n
    · exact .inr (.inr (.inl e2))
    · rcases h2 (nT e1) (nT e2) with h3 | h3
      · exact .inl h3
      · exact .inr (.inr (.inr h3))
structure IndS (ops : List Oper) (x y : Oper) : Prop where
  s1 : ∀ k, x.dst = some k → y.dst ≠ some k ∧ k ∉ reads ops.toArray y
  s2 : ∀ k, y.dst = some k → k ∉ reads ops.toArray x
theorem okSlot_ok {ops : List Oper} {x y : Oper} (h : okSlot ops x y = true) : IndS ops x y := by
  unfold okSlot at h
  split at h
  · rename_i hx
    split at h
    · rename_i hy
      exact ⟨fun k hk => (by rw [hx] at hk; cases hk), fun k hk => (by rw [hy] at hk; cases hk)⟩
    · rename_i e hy
      exact ⟨fun k hk => (by rw [hx] at hk; cases hk), fun k hk => (by rw [hy] at hk; cases hk; exact memN_not.1 h)⟩
  · rename_i d hx
    simp only [Bool.and_eq_true] at h
    obtain ⟨h1, h2⟩ := h
    split at h2
    · rename_i hy
      exact ⟨fun k hk => (by rw [hx] at hk; cases hk; exact ⟨by rw [hy]; simp, memN_not.1 h1⟩), fun k hk => (by rw [hy] at hk; cases hk)⟩
    · rename_i e hy
      simp only [Bool.and_eq_true, Bool.not_eq_true'] at h2
      refine ⟨fun k hk => ?_, fun k hk => ?_⟩
      · rw [hx] at hk; cases hk
        refine ⟨?_, memN_not.1 h1⟩
        rw [hy]
        intro q
        cases q
        have := h2.1
        simp at this
      · rw [hy] at hk; cases hk
        exact memN_not.1 (by rw [h2.2]; rfl)
theorem okSlF_ok {ops : List Oper} {bf : List Nat} {x : Oper} {i : Nat} : ∀ {l : List Oper} {j : Nat}, okSlF ops bf x i l j = true → ∀ k y, l[k]? = some y → (bf.getD (j + k) 0).testBit i = true ∨ IndS ops x y
  | [], j, _, k, y, h => by simp at h
  | z :: l, j, h, k, y, hy => by
    simp only [okSlF, Bool.and_eq_true, Bool.or_eq_true] at h
    cases k with
    | zero => simp at hy; subst hy; exact h.1.imp id okSlot_ok
    | succ k =>
      have := okSlF_ok h.2 k y (by simpa using hy)
      rwa [show Nat.succ j + k = j + (k + 1) by omega] at this
theorem okSls_ok {ops : List Oper} {bf : List Nat} : ∀ {l : List Oper} {i : Nat}, okSls ops bf l i = true → ∀ a b x y, a < b → l[a]? = some x → l[b]? = some y → (bf.getD (i + b) 0).testBit (i + a) = true ∨ IndS ops x y
  | [], i, _, a, b, x, y, _, hx, _ => by simp at hx
  | z :: l, i, h, a, b, x, y, hab, hx, hy => by
    simp only [okSls, Bool.and_eq_true] at h
    obtain ⟨b, rfl⟩ : ∃ b', b = b' + 1 := ⟨b - 1, by omega⟩
    cases a with
    | zero =>
      simp at hx hy; subst hx
      have := okSlF_ok h.1 b y hy
      rwa [show Nat.succ i + b = i + (b + 1) by omega] at this
    | succ a =>
      have := okSls_ok h.2 a b x y (by omega) (by simpa using hx) (by simpa using hy)
      rwa [show Nat.succ i + b = i + (b + 1) by omega, show Nat.succ i + a = i + (a + 1) by omega] at this

section
variable {P : Program} {ρ : Rho} {s : Tr SV} {m : Mem} {nx : Nat} {pc : PC} {call : CallT} {n : Nat}
def HokD (ops : List Oper) (bf : List Nat) (tr : List TE) : Prop := (okAft ops.toArray && okBf ops.toArray bf) = true ∧ ∀ (i j : Nat) (x y : TE), i < j → tr[i]? = some x → tr[j]? = some y → (bf.getD j 0).testBit i = true ∨ Indep ops.toArray x y
theorem exR_yl (hc : CallSp P ρ call) {ops : List Oper} {draw : Bool} (hs : Sat ρ pc) : Yl (fun K => exR P call ops draw s m nx pc fun s m nx pc => K ⟨s, m, nx, pc⟩) fun r => ∃ tr, TrOk P ρ ops.toArray n ops s m nx r tr ∧ (draw = true → HokD ops (bfOf ops) tr) := by
  unfold exR
  split
  · exact (exS_yl hc hs).mono fun r ⟨tr, h⟩ => ⟨tr, h, fun h => by cases h⟩
  · split
    · rename_i hf
      simp only [okForm, Bool.and_eq_true] at hf
      refine Yl.bind (α := OS × List FE) (β := OS) (F := fun K => exD P call ops ops 0 s m nx pc [] fun s m nx pc acc => K (⟨s, m, nx, pc⟩, acc)) (G := fun r K => match okAcc (bfOf ops) r.2 with
        | true => K ⟨r.1.s, r.1.m, r.1.nx, r.1.pc⟩
        | false => false) (exD_yl (n := n) hc hs) fun r hr => ?_
      obtain ⟨tr, fes, htr, hfe, hacc⟩ := hr
      split
      · rename_i ha
        rw [hacc] at ha
        refine Yl.pure (α := OS) _ ⟨tr, htr, fun _ => ⟨by simp [hf.1.1, hf.1.2], fun i j x y hij hx hy => ?_⟩⟩
        obtain ⟨a, a1, a2⟩ := hfe.get hx
        obtain ⟨b, b1, b2⟩ := hfe.get hy
        have o1 : ops[i]? = some x.o := by rw [← htr.os, List.getElem?_map, hx]; rfl
        have o2 : ops[j]? = some y.o := by rw [← htr.os, List.getElem?_map, hy]; rfl
        have k1 := okAcc_two ha hij a1 b1
        rw [a2.i, b2.i, Nat.zero_add, Nat.zero_add] at k1
        have k2 := okSls_ok hf.2 i j _ _ hij o1 o2
        rw [Nat.zero_add, Nat.zero_add] at k2
        rcases k1 with k1 | k1
        · exact .inl k1
        · rcases k2 with k2 | k2
          · exact .inl k2
          · have k3 := indFt_ok a2 b2 k1
            exact .inr ⟨k2.s1, k2.s2, k3.m1, k3.m2⟩
      · exact Yl.no
    · exact Yl.no

/-- where code stands -/
structure At (ρ : Rho) (n : Nat) (s : Tr SV) (m : Mem) (a : Act) (w : World) (θ : Th) : Prop where
  defers : a.defers = []
  size : a.tmps.size = n
  slot : ∀ k sv, s.get k = some sv → den ρ θ sv = some (get a k)
  mem : MemOk ρ θ m.get w
theorem region_ok {ops : Array Oper} {draw : Bool} {id : Nat} {r : OS} {tr : List TE} {Q : Exit → Act → World → Prop} {a : Act} {w : World} {θ : Th} (hm : P.follows .mixedOrders = true) (hdst : ∀ o ∈ ops.toList, ∀ d, o.dst = some d → d < n)
    (htr : TrOk P ρ ops n ops.toList s m nx r tr) (hd : draw = true → HokD ops.toList (bfOf ops.toList) tr) (hA : At ρ n s m a w θ) (hfr : ∀ t, nx ≤ t → t < r.nx → θ t = none)
    (fin : ∀ a' w' θ', At ρ n r.s r.m a' w' θ' → SP ρ nx r.nx θ m.get w θ' r.m.get w' → Q .normal a' w') : (Code.region id ops draw).wp P Q a w := by
  have e : (tr.map (·.o)).toArray = ops := by rw [htr.os]
  have := region_tr (P := P) (ρ := ρ) (n := n) (nx := nx) (S := s.get) (M := m.get) (tr := tr) (a := a) (w := w) (θ := θ) (bf := bfOf ops.toList) (id := id) (draw := draw) (Q := Q) hm hA.defers hA.size hA.slot hA.mem (by rw [htr.fn]; exact hfr) (fun h => by
    rw [e]
    have := hd h
    unfold HokD at this
    exact this) (fun x hx d hxd => hdst x.o (by rw [← htr.os]; exact List.mem_map_of_mem hx) d hxd) (by rw [e]; exact htr.st) fun a' w' θ' h1 h2 h3 h4 => by
    have e1 : finS s.get tr = r.s.get := htr.fs 0
    have e2 : finM m.get tr = r.m.get := htr.fm 0
    rw [e1] at h3
    rw [e2, htr.fn] at h4
    exact fin a' w' θ' ⟨h1, h2, h3, h4.mem⟩ h4
  rwa [e] at this
end
end X
end Go.Proofs.YtppdehodcoffbaaGreatDoor
