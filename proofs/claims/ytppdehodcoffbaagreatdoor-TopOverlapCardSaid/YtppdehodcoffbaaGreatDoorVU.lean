/-
  Regions: what the executor's answer tells. Over any program.
-/
import Derived.Test.YtppdehodcoffbaaGreatDoorVT
set_option linter.unusedSimpArgs false
set_option linter.unusedVariables false
namespace Go.Proofs.YtppdehodcoffbaaGreatDoor
namespace X
open Go.RowKit B

theorem get_bool {a : Act} {t : Nat} {b : Bool} (hv : get a t = .bool b) : a.tmps[t]? = some (.bool b) := by
  unfold B.get at hv
  rw [Array.getD_eq_getD_getElem?] at hv
  cases h' : a.tmps[t]? with
  | none => rw [h'] at hv; simp [undef] at hv
  | some u => rw [h'] at hv; simp at hv; rw [hv]
theorem get_undef {a : Act} {t : Nat} (hv : get a t = undef) : ∀ b, a.tmps[t]? ≠ some (.bool b) := by
  intro b h'
  unfold B.get at hv
  rw [Array.getD_eq_getD_getElem?, h'] at hv
  simp [undef] at hv
theorem dstAt_eq : ∀ {ops : List Oper} {j d : Nat}, dstAt ops j = some d → ∃ o, ops[j]? = some o ∧ o.dst = some d
  | [], j, d, h => by cases h
  | o :: l, 0, d, h => ⟨o, rfl, h⟩
  | o :: l, j + 1, d, h => by simpa using dstAt_eq (ops := l) (j := j) h

structure E1 (P : Program) (ρ : Rho) (ops : Array Oper) (n : Nat) (s : Tr SV) (m : Mem) (nx : Nat) (o : Oper) (r : O5) : Prop where
  pc : Sat ρ r.pc
  le : nx ≤ r.nx
  off : ∀ t, ¬ tc r.ft t → r.m.get t = m.get t
  rd : ∀ g, r.ft = .r g → r.m = m
  new : ∀ t, m.get t = none → r.m.get t ≠ none → nx ≤ t ∧ t < r.nx
  st : Step3 P ρ ops n s.get ⟨o, subM r.ft m, r.v, subM r.ft r.m, nx, r.nx⟩
section
variable {P : Program} {ρ : Rho} {o : Oper} {s : Tr SV} {m : Mem} {nx : Nat} {pc : PC} {call : CallT} {ops : List Oper} {n : Nat}
theorem E1.of {r : O5} (h : OpOk P ρ o s m nx r) (hw : ∀ (a : Act) (θ : Th), (∀ k ∈ gSlot ops.toArray o, ∀ sv, s.get k = some sv → den ρ θ sv = some (get a k)) → Region.wanted o (yielded ops.toArray a.tmps) = true) : E1 P ρ ops.toArray n s m nx o r :=
  ⟨h.pc, h.le, h.off, h.rd, h.new, fun a w θ _ _ h3 h4 h5 => ⟨fun _ => h.run a w θ (fun k hk => h3 k (by simp [reads, hk])) h4 h5, fun hn => by
    rw [hw a θ fun k hk => h3 k (by simp [reads, hk])] at hn; cases hn⟩⟩
theorem E1.not (hs : Sat ρ pc) (hw : ∀ (a : Act) (θ : Th), (∀ k ∈ gSlot ops.toArray o, ∀ sv, s.get k = some sv → den ρ θ sv = some (get a k)) → Region.wanted o (yielded ops.toArray a.tmps) = false) : E1 P ρ ops.toArray n s m nx o ⟨.un, m, nx, pc, .n⟩ :=
  ⟨hs, Nat.le_refl _, fun _ _ => rfl, fun _ h => (by cases h), fun t h1 h2 => absurd h1 h2, fun a w θ _ _ h3 h4 h5 => ⟨fun hn => (by
    rw [hw a θ fun k hk => h3 k (by simp [reads, hk])] at hn; cases hn), fun _ => ⟨θ, SP.refl h4, rfl⟩⟩⟩
theorem ex1_yl (hc : CallSp P ρ call) (hs : Sat ρ pc) : Yl (fun K => ex1 P call ops s m nx pc o fun v m nx pc ft => K ⟨v, m, nx, pc, ft⟩) (E1 P ρ ops.toArray n s m nx o) := by
  unfold ex1
  split
  · rename_i hg
    exact (opx_yl hc hs).mono fun r hr => E1.of hr fun a θ _ => by simp [Region.wanted, hg]
  · rename_i j want hg
    split
    · rename_i d hd
      obtain ⟨o', ho', hd'⟩ := dstAt_eq hd
      have hgs : gSlot ops.toArray o = [d] := by simp [gSlot, hg, ho', hd']
      split
      · rename_i b hb
        have wt : ∀ (a : Act) (θ : Th), (∀ k ∈ gSlot ops.toArray o, ∀ sv, s.get k = some sv → den ρ θ sv = some (get a k)) → Region.wanted o (yielded ops.toArray a.tmps) = (b == want) := fun a θ h => by
          have hv := get_bool (Option.some.inj (h d (by rw [hgs]; simp) _ hb)).symm
          cases want <;> cases b <;> simp [Region.wanted, hg, yielded, ho', hd', hv]
        split
        · exact (opx_yl hc hs).mono fun r hr => E1.of hr fun a θ h => wt a θ h
        · exact (opx_yl hc hs).mono fun r hr => E1.of hr fun a θ h => wt a θ h
        · rename_i h1 h2
          refine Yl.pure (⟨.un, m, nx, pc, .n⟩ : O5) (E1.not hs fun a θ h => ?_)
          rw [wt a θ h]
          cases b <;> cases want <;> first | rfl | exact absurd rfl (h1 rfl) | exact absurd rfl (h2 rfl) | exact (h1 rfl rfl).elim | exact (h2 rfl rfl).elim
      · rename_i hb
        refine Yl.pure (⟨.un, m, nx, pc, .n⟩ : O5) (E1.not hs fun a θ h => ?_)
        have hn := get_undef (Option.some.inj (h d (by rw [hgs]; simp) _ hb)).symm
        have hy : yielded ops.toArray a.tmps j = none := by
          cases h' : a.tmps[d]? with
          | none => simp [yielded, ho', hd', h']
          | some u => cases u <;> first | exact absurd h' (hn _) | simp [yielded, ho', hd', h']
        simp [Region.wanted, hg, hy]
      · exact Yl.no
    · exact Yl.no
theorem putS_yl {d : Option Nat} {v : SV} : Yl (putS s d v) fun s' => s'.get = updS s.get d v := by
  unfold putS
  split
  · exact Yl.pure _ (by funext k; simp [updS])
  · rename_i d
    refine set_yl.mono fun s' h => ?_
    funext k
    rw [h k]
    simp only [updS, Option.some.injEq]
    by_cases e : k = d
    · subst e; simp
    · rw [if_neg e, if_neg (fun q => e q.symm)]

/-! ### Traces -/
structure OS where
  s : Tr SV
  m : Mem
  nx : Nat
  pc : PC
structure TrOk (P : Program) (ρ : Rho) (ops : Array Oper) (n : Nat) (l : List Oper) (s : Tr SV) (m : Mem) (nx : Nat) (r : OS) (tr : List TE) : Prop where
  os : tr.map (·.o) = l
  st : Steps3 P ρ ops n nx s.get m.get tr
  fs : ∀ i, stS (fun _ => true) i tr s.get = r.s.get
  fm : ∀ i, stM (fun _ => true) i tr m.get = r.m.get
  fn : finN nx tr = r.nx
  pc : Sat ρ r.pc
  le : nx ≤ r.nx
  new : ∀ t, m.get t = none → r.m.get t ≠ none → nx ≤ t ∧ t < r.nx
theorem TrOk.nil {opa : Array Oper} (hs : Sat ρ pc) : TrOk P ρ opa n [] s m nx ⟨s, m, nx, pc⟩ [] :=
  ⟨rfl, trivial, fun _ => rfl, fun _ => rfl, rfl, hs, Nat.le_refl _, fun t h1 h2 => absurd h1 h2⟩
theorem TrOk.cons {opa : Array Oper} {l : List Oper} {r1 : O5} {s1 : Tr SV} {r : OS} {tr : List TE} (h1 : E1 P ρ opa n s m nx o r1) (hs1 : s1.get = updS s.get o.dst r1.v) (h : TrOk P ρ opa n l s1 r1.m r1.nx r tr) :
    TrOk P ρ opa n (o :: l) s m nx r (⟨o, subM r1.ft m, r1.v, subM r1.ft r1.m, nx, r1.nx⟩ :: tr) := by
  have hm : updM m.get ⟨o, subM r1.ft m, r1.v, subM r1.ft r1.m, nx, r1.nx⟩ = r1.m.get := by
    funext t
    by_cases hw : TE.wr ⟨o, subM r1.ft m, r1.v, subM r1.ft r1.m, nx, r1.nx⟩ t
    · rw [updM_wr hw]
      have hw : subM r1.ft m t ≠ subM r1.ft r1.m t := hw
      by_cases ht : tc r1.ft t
      · exact subM_in ht
      · exact absurd (by rw [subM_out ht, subM_out ht]) hw
    · rw [updM_not hw]
      have hw : subM r1.ft m t = subM r1.ft r1.m t := Classical.not_not.1 hw
      by_cases ht : tc r1.ft t
      · rw [subM_in ht, subM_in ht] at hw; exact hw
      · exact (h1.off t ht).symm
  refine ⟨by rw [List.map_cons, h.os], ⟨⟨rfl, h1.le, fun t b hb => (subM_some hb).2, fun t e1 e2 => ?_, h1.st⟩, ?_⟩, fun i => ?_, fun i => ?_, h.fn, h.pc, Nat.le_trans h1.le h.le, fun t e1 e2 => ?_⟩
  · by_cases ht : tc r1.ft t
    · exact h1.new t (by rw [← subM_in ht]; exact e1) (by rw [← subM_in ht]; exact e2)
    · exact absurd (subM_out ht) e2
  · rw [hm, ← hs1]; exact h.st
  · simp only [stS, if_true]
    rw [← hs1]; exact h.fs _
  · simp only [stM, if_true]
    rw [hm]; exact h.fm _
  · have h3 := h1.le
    have h4 := h.le
    by_cases e3 : r1.m.get t = none
    · have := h.new t e3 e2; exact ⟨by omega, this.2⟩
    · have := h1.new t e1 e3; exact ⟨this.1, by omega⟩
theorem exS_yl (hc : CallSp P ρ call) : ∀ {l : List Oper} {s : Tr SV} {m : Mem} {nx : Nat} {pc : PC}, Sat ρ pc → Yl (fun K => exS P call ops l s m nx pc fun s m nx pc => K ⟨s, m, nx, pc⟩) fun r => ∃ tr, TrOk P ρ ops.toArray n l s m nx r tr
  | [], s, m, nx, pc, hs => Yl.pure (⟨s, m, nx, pc⟩ : OS) ⟨[], TrOk.nil hs⟩
  | o :: l, s, m, nx, pc, hs => by
    refine Yl.bind (α := O5) (β := OS) (F := fun K => ex1 P call ops s m nx pc o fun v m nx pc ft => K ⟨v, m, nx, pc, ft⟩) (G := fun r K => putS s o.dst r.v fun s => exS P call ops l s r.m r.nx r.pc fun s m nx pc => K ⟨s, m, nx, pc⟩) (ex1_yl (n := n) hc hs) fun r1 h1 => ?_
    refine Yl.bind putS_yl fun s1 hs1 => ?_
    exact (exS_yl hc h1.pc).mono fun r ⟨tr, htr⟩ => ⟨_, htr.cons h1 hs1⟩

/-! ### Drawn regions -/
structure FeOf (i : Nat) (e : TE) (x : FE) : Prop where
  i : x.i = i
  r : e.R = subM x.ft x.m0
  r' : e.R' = subM x.ft x.m1
  rd : ∀ g, x.ft = .r g → x.m1 = x.m0
inductive FeR : Nat → List TE → List FE → Prop where
  | nil (i : Nat) : FeR i [] []
  | cons {i : Nat} {e : TE} {x : FE} {l : List TE} {k : List FE} (h : FeOf i e x) (t : FeR (i + 1) l k) : FeR i (e :: l) (x :: k)
theorem FeR.get : ∀ {i j : Nat} {l : List TE} {k : List FE} {e : TE}, FeR i l k → l[j]? = some e → ∃ x, k[j]? = some x ∧ FeOf (i + j) e x
  | i, j, _, _, e, .nil _, h => by simp at h
  | i, 0, _, _, e, .cons h t, hj => by simp at hj; subst hj; exact ⟨_, rfl, h⟩
  | i, j + 1, _, _, e, .cons h t, hj => by
    obtain ⟨x, h1, h2⟩ := FeR.get t (by simpa using hj)
    exact ⟨x, by simpa using h1, by rwa [show i + (j + 1) = i + 1 + j by omega]⟩
def isT (x : FE) : Bool := match x.ft with
  | .n => false
  | _ => true
theorem exD_yl (hc : CallSp P ρ call) : ∀ {l : List Oper} {i : Nat} {s : Tr SV} {m : Mem} {nx : Nat} {pc : PC} {acc : List FE}, Sat ρ pc → Yl (fun K => exD P call ops l i s m nx pc acc fun s m nx pc acc => K (⟨s, m, nx, pc⟩, acc)) fun r : OS × List FE => ∃ tr fes, TrOk P ρ ops.toArray n l s m nx r.1 tr ∧ FeR i tr fes ∧ r.2 = (fes.filter isT).reverse ++ acc
  | [], i, s, m, nx, pc, acc, hs => Yl.pure ((⟨s, m, nx, pc⟩, acc) : OS × List FE) ⟨[], [], TrOk.nil hs, .nil i, rfl⟩
  | o :: l, i, s, m, nx, pc, acc, hs => by
    refine Yl.bind (α := O5) (β := OS × List FE) (F := fun K => ex1 P call ops s m nx pc o fun v m nx pc ft => K ⟨v, m, nx, pc, ft⟩) (G := fun r K => putS s o.dst r.v fun s => match r.ft with
      | .n => exD P call ops l (Nat.succ i) s r.m r.nx r.pc acc fun s m nx pc acc => K (⟨s, m, nx, pc⟩, acc)
      | ft => exD P call ops l (Nat.succ i) s r.m r.nx r.pc (⟨i, ft, m, r.m⟩ :: acc) fun s m nx pc acc => K (⟨s, m, nx, pc⟩, acc)) (ex1_yl (n := n) hc hs) fun r1 h1 => ?_
    refine Yl.bind putS_yl fun s1 hs1 => ?_
    have fe : FeOf i ⟨o, subM r1.ft m, r1.v, subM r1.ft r1.m, nx, r1.nx⟩ ⟨i, r1.ft, m, r1.m⟩ := ⟨rfl, rfl, rfl, h1.rd⟩
    split
    · rename_i hft
      refine (exD_yl hc h1.pc).mono fun r ⟨tr, fes, htr, hf, ha⟩ => ⟨_, _, htr.cons h1 hs1, .cons fe hf, ?_⟩
      rw [List.filter_cons_of_neg (by simp [isT, hft])]
      exact ha
    · rename_i hft
      refine (exD_yl hc h1.pc).mono fun r ⟨tr, fes, htr, hf, ha⟩ => ⟨_, _, htr.cons h1 hs1, .cons fe hf, ?_⟩
      rw [List.filter_cons_of_pos (by
        unfold isT
        split
        · rename_i e; exact absurd e hft
        · rfl)]
      rw [ha]; simp
end

/-! ### What does not hang together -/
theorem eqTs_ok : ∀ {l m : List (Nat × Int)}, eqTs l m = true → l = m
  | [], [], _ => rfl
  | (i, a) :: l, (j, b) :: m, h => by
    simp only [eqTs, Bool.and_eq_true, Nat.beq_eq, eqI_iff] at h
    obtain ⟨⟨rfl, rfl⟩, h⟩ := h
    rw [eqTs_ok h]
  | [], _ :: _, h => by cases h
  | _ :: _, [], h => by cases h
theorem eqLin_ok {a b : Lin} (h : eqLin a b = true) : a = b := by
  cases a; cases b
  simp only [eqLin, Bool.and_eq_true, eqI_iff] at h
  rw [h.1, eqTs_ok h.2]
mutual
theorem eqV_ok : ∀ {a b : SV}, eqV a b = true → a = b
  | a, b, h => by
    cases a <;> cases b <;> first
      | (simp only [eqV] at h; done)
      | (simp [eqV] at h; done)
      | rfl
      | skip
    all_goals simp only [eqV, Bool.and_eq_true, Nat.beq_eq, eqI_iff, ikEq_iff, beq_iff_eq] at h
    · obtain ⟨rfl, rfl⟩ := h; rfl
    · rw [h.1, eqLin_ok h.2]
    · rw [h]
    · rw [eqStr_ok h]
    · rw [h.1, h.2]
    · obtain ⟨⟨⟨rfl, rfl⟩, rfl⟩, h⟩ := h
      rename_i c c'
      cases c <;> cases c' <;> simp at h <;> rw [h]
    · rw [h.1, eqStr_ok h.2]
    · rw [eqVs_ok h]
    · rw [eqVs_ok h]
    · rw [h.1.1, eqVs_ok h.1.2, eqVs_ok h.2]
    · rw [h]
    · rw [h.1, h.2]
theorem eqVs_ok : ∀ {a b : List SV}, eqVs a b = true → a = b
  | [], [], _ => rfl
  | a :: l, b :: m, h => by
    simp only [eqVs, Bool.and_eq_true] at h
    rw [eqV_ok h.1, eqVs_ok h.2]
  | [], _ :: _, h => by cases h
  | _ :: _, [], h => by cases h
end
end X
end Go.Proofs.YtppdehodcoffbaaGreatDoor
