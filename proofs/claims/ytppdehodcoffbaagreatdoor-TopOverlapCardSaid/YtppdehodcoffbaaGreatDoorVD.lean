/-
  What a region's operations leave, in whatever order. Over any program.
-/
import Derived.Test.YtppdehodcoffbaaGreatDoorVC
set_option linter.unusedSimpArgs false
set_option linter.unusedVariables false
namespace Go.Proofs.YtppdehodcoffbaaGreatDoor
namespace X
open Go.RowKit B

section
variable {ρ : Rho} {θ θ' : Th} {w w' : World} {M M' R R' : Nat → Option Blk}
theorem SP.wk {a b n n' : Nat} (h : SP ρ n n' θ R w θ' R' w') (h1 : a ≤ n) (h2 : n' ≤ b) : SP ρ a b θ R w θ' R' w' :=
  ⟨h.le, fun t ht => (h.new t ht).imp id fun q => ⟨by omega, by omega⟩, h.mem, h.ext, h.own⟩
theorem SP.seq {a b : Nat} {θ2 : Th} {R2 : Nat → Option Blk} {w2 : World} (h : SP ρ a b θ R w θ' R' w') (k : SP ρ a b θ' R' w' θ2 R2 w2) : SP ρ a b θ R w θ2 R2 w2 := by
  refine ⟨h.le.trans k.le, fun t ht => ?_, k.mem, ?_, fun g hg => ?_⟩
  · rcases k.new t ht with q | q
    · exact h.new t q
    · exact .inr q
  · refine ⟨k.ext.os.trans h.ext.os, k.ext.tape.trans h.ext.tape, k.ext.output.trans h.ext.output, Nat.le_trans h.ext.size k.ext.size, fun i hi hn => ?_⟩
    rw [k.ext.block i (Nat.lt_of_lt_of_le hi h.ext.size) fun hb => ?_, h.ext.block i hi hn]
    rcases h.own i hb with q | q
    · exact hn q
    · omega
  · rcases k.own g hg with q | q
    · exact h.own g q
    · exact .inr (Nat.le_trans h.ext.size q)
end

def rdO : Operand → List Nat
  | .tmp t => [t]
  | _ => []
def rdOs (l : List Operand) : List Nat := l.flatMap rdO
/-- where an operation's guard lies -/
def gSlot (ops : Array Oper) (o : Oper) : List Nat := match o.guard with
  | none => []
  | some (j, _) => match ops[j]? with
    | some o' => o'.dst.toList
    | none => []
def reads (ops : Array Oper) (o : Oper) : List Nat := rdOs o.op.operands.toList ++ gSlot ops o

/-- an operation of a trace: the memory that it reads or turns, what it leaves, the tags that it may give -/
structure TE where
  o : Oper
  R : Nat → Option Blk
  v : SV
  R' : Nat → Option Blk
  n : Nat
  n' : Nat
def TE.wr (e : TE) (t : Nat) : Prop := e.R t ≠ e.R' t
def TE.rd (e : TE) (t : Nat) : Prop := e.R t ≠ none
def updS (S : Nat → Option SV) (d : Option Nat) (v : SV) : Nat → Option SV := fun k => if d = some k then some v else S k
open Classical in
noncomputable def updM (M : Nat → Option Blk) (e : TE) : Nat → Option Blk := fun t => if e.R t = e.R' t then M t else e.R' t
theorem updM_wr {M : Nat → Option Blk} {e : TE} {t : Nat} (h : e.wr t) : updM M e t = e.R' t := if_neg h
theorem updM_not {M : Nat → Option Blk} {e : TE} {t : Nat} (h : ¬ e.wr t) : updM M e t = M t := if_pos (Classical.not_not.1 h)

/-- an operation does what a trace tells of it, whatever else there is -/
def Step3 (P : Program) (ρ : Rho) (ops : Array Oper) (n : Nat) (S : Nat → Option SV) (e : TE) : Prop :=
  ∀ (a : Act) (w : World) (θ : Th), a.defers = [] → a.tmps.size = n → (∀ k ∈ reads ops e.o, ∀ sv, S k = some sv → den ρ θ sv = some (get a k)) → MemOk ρ θ e.R w → (∀ t, e.n ≤ t → t < e.n' → θ t = none) →
    (Region.wanted e.o (yielded ops a.tmps) = true → e.o.wp P a w (fun a' w' => ∃ v θ', a' = a.put e.o.dst v ∧ SP ρ e.n e.n' θ e.R w θ' e.R' w' ∧ den ρ θ' e.v = some v) (fun _ _ _ => False)) ∧
    (Region.wanted e.o (yielded ops a.tmps) = false → ∃ θ', SP ρ e.n e.n' θ e.R w θ' e.R' w ∧ den ρ θ' e.v = some undef)
def Steps3 (P : Program) (ρ : Rho) (ops : Array Oper) (n : Nat) : Nat → (Nat → Option SV) → (Nat → Option Blk) → List TE → Prop
  | _, _, _, [] => True
  | nx, S, M, e :: l => (e.n = nx ∧ e.n ≤ e.n' ∧ (∀ t b, e.R t = some b → M t = some b) ∧ (∀ t, e.R t = none → e.R' t ≠ none → e.n ≤ t ∧ t < e.n') ∧ Step3 P ρ ops n S e) ∧ Steps3 P ρ ops n e.n' (updS S e.o.dst e.v) (updM M e) l
def stS (D : Nat → Bool) : Nat → List TE → (Nat → Option SV) → (Nat → Option SV)
  | _, [], S => S
  | i, e :: l, S => stS D (i + 1) l (if D i = true then updS S e.o.dst e.v else S)
noncomputable def stM (D : Nat → Bool) : Nat → List TE → (Nat → Option Blk) → (Nat → Option Blk)
  | _, [], M => M
  | i, e :: l, M => stM D (i + 1) l (if D i = true then updM M e else M)
theorem stS_agree {D D' : Nat → Bool} {k : Nat} : ∀ {l : List TE} {i : Nat} {S S' : Nat → Option SV}, S k = S' k → (∀ j e, l[j]? = some e → e.o.dst = some k → D (i + j) = D' (i + j)) → stS D i l S k = stS D' i l S' k
  | [], _, _, _, h, _ => h
  | e :: l, i, S, S', h, hd => by
    unfold stS
    refine stS_agree (l := l) ?_ fun j e' hj hk => ?_
    · by_cases hk : e.o.dst = some k
      · have := hd 0 e rfl hk
        rw [Nat.add_zero] at this
        rw [this]
        split
        · simp [updS, hk]
        · exact h
      · split <;> split <;> simp [updS, hk, h]
    · have := hd (j + 1) e' (by simpa using hj) hk
      rwa [show i + (j + 1) = i + 1 + j by omega] at this
theorem stM_agree {D D' : Nat → Bool} {t : Nat} : ∀ {l : List TE} {i : Nat} {M M' : Nat → Option Blk}, M t = M' t → (∀ j e, l[j]? = some e → e.wr t → D (i + j) = D' (i + j)) → stM D i l M t = stM D' i l M' t
  | [], _, _, _, h, _ => h
  | e :: l, i, M, M', h, hd => by
    unfold stM
    refine stM_agree (l := l) ?_ fun j e' hj hk => ?_
    · by_cases hk : e.wr t
      · have := hd 0 e rfl hk
        rw [Nat.add_zero] at this
        rw [this]
        split
        · rw [updM_wr hk, updM_wr hk]
        · exact h
      · split <;> split <;> simp only [updM_not hk, h]
    · have := hd (j + 1) e' (by simpa using hj) hk
      rwa [show i + (j + 1) = i + 1 + j by omega] at this
theorem stS_nil {D : Nat → Bool} {S : Nat → Option SV} : ∀ {l : List TE} {m : Nat}, (∀ j, j < l.length → D (m + j) = false) → stS D m l S = S
  | [], _, _ => rfl
  | e :: l, m, h => by
    have h0 := h 0 (by simp)
    rw [Nat.add_zero] at h0
    simp only [stS, h0, Bool.false_eq_true, if_false]
    exact stS_nil fun j hj => by rw [show m + 1 + j = m + (j + 1) by omega]; exact h (j + 1) (by simpa using hj)
theorem stM_nil {D : Nat → Bool} {M : Nat → Option Blk} : ∀ {l : List TE} {m : Nat}, (∀ j, j < l.length → D (m + j) = false) → stM D m l M = M
  | [], _, _ => rfl
  | e :: l, m, h => by
    have h0 := h 0 (by simp)
    rw [Nat.add_zero] at h0
    simp only [stM, h0, Bool.false_eq_true, if_false]
    exact stM_nil fun j hj => by rw [show m + 1 + j = m + (j + 1) by omega]; exact h (j + 1) (by simpa using hj)
theorem Steps3.get {P : Program} {ρ : Rho} {ops : Array Oper} {n : Nat} : ∀ {l : List TE} {nx m : Nat} {S : Nat → Option SV} {M : Nat → Option Blk}, Steps3 P ρ ops n nx S M l → ∀ (j : Nat) (e : TE), l[j]? = some e →
    (∀ t b, e.R t = some b → stM (fun i => decide (i < m + j)) m l M t = some b) ∧ (∀ t, e.R t = none → e.R' t ≠ none → e.n ≤ t ∧ t < e.n') ∧ Step3 P ρ ops n (stS (fun i => decide (i < m + j)) m l S) e
  | [], nx, m, S, M, _, j, e, hj => by simp at hj
  | x :: l, nx, m, S, M, h, 0, e, hj => by
    simp only [List.getElem?_cons_zero, Option.some.injEq] at hj
    subst hj
    obtain ⟨⟨_, _, h1, h2, h3⟩, _⟩ := h
    have f : ∀ j, j < (x :: l).length → decide (m + j < m + 0) = false := fun j _ => by simp
    rw [stS_nil f, stM_nil f]
    exact ⟨h1, h2, h3⟩
  | x :: l, nx, m, S, M, h, j + 1, e, hj => by
    have := Steps3.get (m := m + 1) h.2 j e (by simpa using hj)
    have hm : decide (m < m + (j + 1)) = true := by simp
    simp only [stS, stM, hm, if_true]
    rwa [show (fun i => decide (i < m + (j + 1))) = (fun i => decide (i < m + 1 + j)) from funext fun i => by rw [show m + (j + 1) = m + 1 + j by omega]]
theorem Steps3.rng {P : Program} {ρ : Rho} {ops : Array Oper} {n : Nat} : ∀ {l : List TE} {nx : Nat} {S : Nat → Option SV} {M : Nat → Option Blk}, Steps3 P ρ ops n nx S M l → ∀ (i : Nat) (e : TE), l[i]? = some e →
    nx ≤ e.n ∧ e.n ≤ e.n' ∧ ∀ (j : Nat) (e' : TE), l[j]? = some e' → i < j → e.n' ≤ e'.n
  | [], nx, S, M, _, i, e, hi => by simp at hi
  | x :: l, nx, S, M, h, 0, e, hi => by
    simp only [List.getElem?_cons_zero, Option.some.injEq] at hi
    subst hi
    obtain ⟨⟨h0, h1, _⟩, h2⟩ := h
    refine ⟨by omega, h1, fun j e' hj hlt => ?_⟩
    cases j with
    | zero => omega
    | succ j => exact (Steps3.rng h2 j e' (by simpa using hj)).1
  | x :: l, nx, S, M, h, i + 1, e, hi => by
    obtain ⟨⟨h0, h1, _⟩, h2⟩ := h
    have := Steps3.rng h2 i e (by simpa using hi)
    refine ⟨by omega, this.2.1, fun j e' hj hlt => ?_⟩
    cases j with
    | zero => omega
    | succ j => exact this.2.2 j e' (by simpa using hj) (by omega)
def finN : Nat → List TE → Nat
  | nx, [] => nx
  | _, e :: l => finN e.n' l
theorem Steps3.fin {P : Program} {ρ : Rho} {ops : Array Oper} {n : Nat} : ∀ {l : List TE} {nx : Nat} {S : Nat → Option SV} {M : Nat → Option Blk}, Steps3 P ρ ops n nx S M l → nx ≤ finN nx l ∧ ∀ (i : Nat) (e : TE), l[i]? = some e → e.n' ≤ finN nx l
  | [], nx, S, M, _ => ⟨Nat.le_refl _, fun i e h => by simp at h⟩
  | x :: l, nx, S, M, h => by
    obtain ⟨⟨h0, h1, _⟩, h2⟩ := h
    have := Steps3.fin h2
    refine ⟨by simp only [finN]; omega, fun i e hi => ?_⟩
    cases i with
    | zero => simp at hi; subst hi; exact this.1
    | succ i => exact this.2 i e (by simpa using hi)

/-- neither hangs on the other -/
structure Indep (ops : Array Oper) (x y : TE) : Prop where
  s1 : ∀ k, x.o.dst = some k → y.o.dst ≠ some k ∧ k ∉ reads ops y.o
  s2 : ∀ k, y.o.dst = some k → k ∉ reads ops x.o
  m1 : ∀ t, x.wr t → ¬ y.wr t ∧ ¬ y.rd t
  m2 : ∀ t, y.wr t → ¬ x.rd t

/-! ### The invariant of a region -/
structure J3 (ρ : Rho) (n nx : Nat) (S : Nat → Option SV) (M : Nat → Option Blk) (l : List TE) (θ0 : Th) (w0 : World) (D : Nat → Bool) (a : Act) (w : World) (θ : Th) : Prop where
  defers : a.defers = []
  size : a.tmps.size = n
  slot : ∀ k sv, stS D 0 l S k = some sv → den ρ θ sv = some (get a k)
  sp : SP ρ nx (finN nx l) θ0 M w0 θ (stM D 0 l M) w
  fresh : ∀ t, θ t ≠ none → θ0 t ≠ none ∨ ∃ i e, D i = true ∧ l[i]? = some e ∧ e.n ≤ t ∧ t < e.n'

theorem J3.step {P : Program} {ρ : Rho} {n nx : Nat} {S : Nat → Option SV} {M : Nat → Option Blk} {l : List TE} {ops : Array Oper} {θ0 : Th} {w0 : World} {D : Nat → Bool} {a : Act} {w : World} {θ : Th} {draw : Bool} {bf : List Nat} {j : Nat} {e : TE}
    (hJ : J3 ρ n nx S M l θ0 w0 D a w θ) (hst : Steps3 P ρ ops n nx S M l) (hθ0 : ∀ t, nx ≤ t → t < finN nx l → θ0 t = none) (hreg : draw = true → ∀ (i j : Nat) (x y : TE), i < j → l[i]? = some x → l[j]? = some y → (bf.getD j 0).testBit i = true ∨ Indep ops x y)
    (hn : B.Next draw bf D j) (hj : l[j]? = some e) (hdst : ∀ d, e.o.dst = some d → d < n) :
    (Region.wanted e.o (yielded ops a.tmps) = true → e.o.wp P a w (fun a' w' => ∃ θ', J3 ρ n nx S M l θ0 w0 (fun i => i == j || D i) a' w' θ') (fun _ _ _ => False)) ∧
    (Region.wanted e.o (yielded ops a.tmps) = false → ∃ θ', J3 ρ n nx S M l θ0 w0 (fun i => i == j || D i) (a.put e.o.dst undef) w θ') := by
  have hDj : D j = false := by
    rcases hn with ⟨_, h⟩ | ⟨_, h, _⟩
    · simp [h]
    · exact h
  have dep : ∀ i x, l[i]? = some x → i ≠ j → (Indep ops x e → False) → (Indep ops e x → False) → D i = decide (i < j) := by
    intro i x hi hne h1 h2
    rcases hn with ⟨_, h⟩ | ⟨hd, _, hpre, hpost⟩
    · exact h i
    · rcases Nat.lt_or_gt_of_ne hne with hlt | hlt
      · rcases hreg hd i j _ _ hlt hi hj with h | h
        · rw [hpre i h]; simp [hlt]
        · exact (h1 h).elim
      · rcases hreg hd j i _ _ hlt hj hi with h | h
        · rw [hpost i h]; simp; omega
        · exact (h2 h).elim
  obtain ⟨hR, hN, hs⟩ := hst.get (m := 0) j e hj
  rw [Nat.zero_add] at hR hs
  have rdS : ∀ k ∈ reads ops e.o, ∀ sv, stS (fun i => decide (i < j)) 0 l S k = some sv → den ρ θ sv = some (get a k) := by
    intro k hk sv hsv
    refine hJ.slot k sv ?_
    rw [← hsv]
    refine stS_agree rfl fun i x hi hd => ?_
    rw [Nat.zero_add]
    by_cases hne : i = j
    · subst hne; rw [hDj]; simp
    · exact dep i x hi hne (fun h => (h.s1 k hd).2 hk) (fun h => h.s2 k hd hk)
  have rdM : ∀ t b, e.R t = some b → stM D 0 l M t = some b := by
    intro t b hb
    rw [← hR t b hb]
    refine stM_agree rfl fun i x hi hd => ?_
    rw [Nat.zero_add]
    by_cases hne : i = j
    · subst hne; rw [hDj]; simp
    · exact dep i x hi hne (fun h => (h.m1 t hd).2 (by unfold TE.rd; rw [hb]; simp)) (fun h => h.m2 t hd (by unfold TE.rd; rw [hb]; simp))
  obtain ⟨g1, g2, g3⟩ := hst.rng j e hj
  obtain ⟨g4, g5⟩ := hst.fin
  have g6 := g5 j e hj
  have hfr : ∀ t, e.n ≤ t → t < e.n' → θ t = none := by
    intro t h1 h2
    cases hb : θ t with
    | none => rfl
    | some u =>
      exfalso
      rcases hJ.fresh t (by rw [hb]; simp) with h | ⟨i, x, hDi, hi, h3, h4⟩
      · exact h (hθ0 t (by omega) (by omega))
      · by_cases hne : i = j
        · subst hne; rw [hDj] at hDi; cases hDi
        · rcases Nat.lt_or_gt_of_ne hne with hlt | hlt
          · have := (hst.rng i x hi).2.2 j e hj hlt; omega
          · have := g3 i x hi hlt; omega
  have post : ∀ v w' θ', SP ρ e.n e.n' θ e.R w θ' e.R' w' → den ρ θ' e.v = some v → ∃ θ', J3 ρ n nx S M l θ0 w0 (fun i => i == j || D i) (a.put e.o.dst v) w' θ' := by
    intro v w' θ' hsp hv
    have memEq : ∀ t, (e.wr t → stM (fun i => i == j || D i) 0 l M t = e.R' t) ∧ (¬ e.wr t → stM (fun i => i == j || D i) 0 l M t = stM D 0 l M t) := by
      intro t
      refine ⟨fun hw => ?_, fun hw => ?_⟩
      · have e1 : stM (fun i => i == j || D i) 0 l M t = stM (fun i => decide (i < j + 1)) 0 l M t := by
          refine stM_agree rfl fun i x hi hd => ?_
          rw [Nat.zero_add]
          by_cases hne : i = j
          · subst hne; simp
          · have hb : (i == j) = false := by simp [hne]
            rw [hb, Bool.false_or, dep i x hi hne (fun h => (h.m1 t hd).1 hw) (fun h => (h.m1 t hw).1 hd)]
            rw [Bool.eq_iff_iff]; simp; try omega
        rw [e1]
        have gen : ∀ (l : List TE) (m j : Nat) (M : Nat → Option Blk), l[j]? = some e → stM (fun i => decide (i < m + j + 1)) m l M t = e.R' t := by
          intro l
          induction l with
          | nil => intro m j M h; simp at h
          | cons x l ih =>
            intro m j M h
            simp only [stM]
            have hm : decide (m < m + j + 1) = true := by simp; omega
            rw [if_pos hm]
            cases j with
            | zero =>
              simp only [List.getElem?_cons_zero, Option.some.injEq] at h
              subst h
              rw [stM_nil fun j _ => by simp]
              exact updM_wr hw
            | succ j =>
              have := ih (m + 1) j (updM M x) (by simpa using h)
              rwa [show m + (j + 1) + 1 = m + 1 + j + 1 by omega]
        have := gen l 0 j M hj
        rwa [Nat.zero_add] at this
      · refine stM_agree rfl fun i x hi hd => ?_
        rw [Nat.zero_add]
        by_cases hne : i = j
        · subst hne; rw [hj] at hi; cases hi; exact absurd hd hw
        · have hb : (i == j) = false := by simp [hne]
          rw [hb, Bool.false_or]
    have hsp' : SP ρ e.n e.n' θ (stM D 0 l M) w θ' (stM (fun i => i == j || D i) 0 l M) w' := by
      refine SP.frame (tc := fun t => e.R t ≠ none ∨ e.R' t ≠ none) hJ.sp.mem (fun t b hb => ⟨.inl (by simp [hb]), rdM t b hb⟩) hsp (fun t ht => ?_) fun t b hb => ?_
      · cases hr : e.R' t with
        | none => rfl
        | some x => exact absurd (.inr (by rw [hr]; simp)) ht
      · by_cases hw : e.wr t
        · rw [(memEq t).1 hw] at hb
          exact .inl ⟨.inr (by rw [hb]; simp), hb⟩
        · rw [(memEq t).2 hw] at hb
          have heq : e.R t = e.R' t := Classical.not_not.1 hw
          cases hr : e.R t with
          | none => exact .inr ⟨by rw [← heq, hr]; simp, hb⟩
          | some x =>
            have := rdM t x hr
            rw [hb] at this; cases this
            exact .inl ⟨.inl (by first | simp | (rw [hr]; simp)), by rw [← heq, hr]⟩
    refine ⟨θ', by rw [defers_put]; exact hJ.defers, by rw [size_put]; exact hJ.size, fun k sv hsv => ?_, hJ.sp.seq (hsp'.wk g1 g6), fun t ht => ?_⟩
    · by_cases hk : e.o.dst = some k
      · have e1 : stS (fun i => i == j || D i) 0 l S k = stS (fun i => decide (i < j + 1)) 0 l S k := by
          refine stS_agree rfl fun i x hi hd => ?_
          rw [Nat.zero_add]
          by_cases hne : i = j
          · subst hne; simp
          · have hb : (i == j) = false := by simp [hne]
            rw [hb, Bool.false_or, dep i x hi hne (fun h => (h.s1 k hd).1 hk) (fun h => (h.s1 k hk).1 hd)]
            rw [Bool.eq_iff_iff]; simp; try omega
        rw [e1] at hsv
        have e2 : stS (fun i => decide (i < j + 1)) 0 l S k = some e.v := by
          have gen : ∀ (l : List TE) (m j : Nat) (S : Nat → Option SV), l[j]? = some e → stS (fun i => decide (i < m + j + 1)) m l S k = some e.v := by
            intro l
            induction l with
            | nil => intro m j S h; simp at h
            | cons x l ih =>
              intro m j S h
              simp only [stS]
              have hm : decide (m < m + j + 1) = true := by simp; omega
              rw [if_pos hm]
              cases j with
              | zero =>
                simp only [List.getElem?_cons_zero, Option.some.injEq] at h
                subst h
                rw [stS_nil fun j _ => by simp]
                simp [updS, hk]
              | succ j =>
                have := ih (m + 1) j (updS S x.o.dst x.v) (by simpa using h)
                rwa [show m + (j + 1) + 1 = m + 1 + j + 1 by omega]
          have := gen l 0 j S hj
          rwa [Nat.zero_add] at this
        rw [e2] at hsv
        cases hsv
        rw [hk, get_put a k k v (by rw [hJ.size]; exact hdst k hk), if_pos rfl]
        exact hv
      · have e1 : stS (fun i => i == j || D i) 0 l S k = stS D 0 l S k := by
          refine stS_agree rfl fun i x hi hd => ?_
          rw [Nat.zero_add]
          by_cases hne : i = j
          · subst hne; rw [hj] at hi; cases hi; exact absurd hd hk
          · have hb : (i == j) = false := by simp [hne]
            rw [hb, Bool.false_or]
        rw [e1] at hsv
        have hg : get (a.put e.o.dst v) k = get a k := by
          cases hd : e.o.dst with
          | none => rfl
          | some d => rw [get_put a d k v (by rw [hJ.size]; exact hdst d hd), if_neg (fun q => hk (by rw [hd, q]))]
        rw [hg]
        exact den_mono hsp.le sv (hJ.slot k sv hsv)
    · rcases hsp.new t ht with h | h
      · rcases hJ.fresh t h with h | ⟨i, x, hDi, r⟩
        · exact .inl h
        · exact .inr ⟨i, x, by simp [hDi], r⟩
      · exact .inr ⟨j, e, by simp, hj, h.1, h.2⟩
  obtain ⟨q1, q2⟩ := hs a w θ hJ.defers hJ.size rdS (hJ.sp.mem.sub rdM) hfr
  constructor
  · intro hw
    refine wp_weaken ?_ (q1 hw)
    rintro a' w' ⟨v, θ', rfl, hp, hd⟩
    exact post v w' θ' hp hd
  · intro hw
    obtain ⟨θ', hp, hd⟩ := q2 hw
    exact post _ _ θ' hp hd

def finS (S : Nat → Option SV) (l : List TE) : Nat → Option SV := stS (fun _ => true) 0 l S
noncomputable def finM (M : Nat → Option Blk) (l : List TE) : Nat → Option Blk := stM (fun _ => true) 0 l M

/-- THE RULE, for a region's trace -/
theorem region_tr {P : Program} {ρ : Rho} {n nx : Nat} {S : Nat → Option SV} {M : Nat → Option Blk} {tr : List TE} {a : Act} {w : World} {θ : Th} {bf : List Nat} {id : Nat} {draw : Bool} {Q : Exit → Act → World → Prop} (hm : P.follows .mixedOrders = true)
    (h1 : a.defers = []) (h2 : a.tmps.size = n) (h3 : ∀ k sv, S k = some sv → den ρ θ sv = some (get a k)) (h4 : MemOk ρ θ M w) (h5 : ∀ t, nx ≤ t → t < finN nx tr → θ t = none)
    (hok : draw = true → (okAft (tr.map (·.o)).toArray && okBf (tr.map (·.o)).toArray bf) = true ∧ ∀ (i j : Nat) (x y : TE), i < j → tr[i]? = some x → tr[j]? = some y → (bf.getD j 0).testBit i = true ∨ Indep (tr.map (·.o)).toArray x y)
    (hdst : ∀ e ∈ tr, ∀ d, e.o.dst = some d → d < n) (hst : Steps3 P ρ (tr.map (·.o)).toArray n nx S M tr)
    (fin : ∀ a' w' θ', a'.defers = [] → a'.tmps.size = n → (∀ k sv, finS S tr k = some sv → den ρ θ' sv = some (get a' k)) → SP ρ nx (finN nx tr) θ M w θ' (finM M tr) w' → Q .normal a' w') : (Code.region id (tr.map (·.o)).toArray draw).wp P Q a w := by
  have f0 : ∀ j, j < tr.length → (fun _ : Nat => false) (0 + j) = false := fun _ _ => rfl
  refine region_inv (bf := bf) (Inv := fun D a' w' => ∃ θ', J3 ρ n nx S M tr θ w D a' w' θ') hm (fun hd => (hok hd).1) (fun w' hw' => ⟨θ, ?_⟩) (fun D j o a' w' hj hn ⟨θ', hJ⟩ => ?_) (fun D a' w' hd ⟨θ', hJ⟩ => ?_) (fun _ D D' a' w' hd ⟨θ', hJ⟩ => ⟨θ', ?_⟩)
  · have hx : Ext none' w w' := by rcases hw' with rfl | rfl; exact Ext.refl _ _; exact (Ext.refl _ _).drew
    refine ⟨h1, h2, ?_, ?_, fun t ht => .inl ht⟩
    · rw [stS_nil f0]; exact h3
    · rw [stM_nil f0]
      exact ⟨ThLe.refl _, fun t ht => .inl ht, ⟨fun t b hb => (h4.holds t b hb).keep (ThLe.refl _) hx fun _ _ _ h => h, h4.inj⟩, hx.mono fun _ _ h => h.elim, fun g hg => .inl hg⟩
  · rw [List.getElem?_map] at hj
    cases hx : tr[j]? with
    | none => rw [hx] at hj; cases hj
    | some e =>
      rw [hx] at hj
      simp only [Option.map_some, Option.some.injEq] at hj
      subst hj
      exact hJ.step hst h5 (fun hd => (hok hd).2) hn hx (hdst e (List.mem_of_getElem? hx))
  · have e1 : ∀ k, stS D 0 tr S k = finS S tr k := fun k => stS_agree rfl fun i e hi _ => by
      rw [Nat.zero_add]; exact hd i (by simpa using (List.getElem?_eq_some_iff.1 hi).1)
    have e2 : stM D 0 tr M = finM M tr := funext fun t => stM_agree rfl fun i e hi _ => by
      rw [Nat.zero_add]; exact hd i (by simpa using (List.getElem?_eq_some_iff.1 hi).1)
    exact fin a' w' θ' hJ.defers hJ.size (fun k sv h => hJ.slot k sv (by rw [e1]; exact h)) (by rw [← e2]; exact hJ.sp)
  · have e1 : ∀ k, stS D' 0 tr S k = stS D 0 tr S k := fun k => stS_agree rfl fun i e hi _ => by
      rw [Nat.zero_add]; exact (hd i (by simpa using (List.getElem?_eq_some_iff.1 hi).1)).symm
    have e2 : stM D' 0 tr M = stM D 0 tr M := funext fun t => stM_agree rfl fun i e hi _ => by
      rw [Nat.zero_add]; exact (hd i (by simpa using (List.getElem?_eq_some_iff.1 hi).1)).symm
    refine ⟨hJ.defers, hJ.size, fun k sv h => hJ.slot k sv (by rw [← e1]; exact h), by rw [e2]; exact hJ.sp, fun t ht => ?_⟩
    rcases hJ.fresh t ht with h | ⟨i, e, h1, hi, h2⟩
    · exact .inl h
    · exact .inr ⟨i, e, by rw [← hd i (by simpa using (List.getElem?_eq_some_iff.1 hi).1)]; exact h1, hi, h2⟩
end X
end Go.Proofs.YtppdehodcoffbaaGreatDoor
