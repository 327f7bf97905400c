/-
  TopEdits: VK, VL, VM.
-/
import Derived.Test.YtebfahobllghnaaGreatDoorEdA4
import Derived.Great.BuildSlice
import Derived.Laws.MakeOwn
import Derived.Deep.AppendSrc
set_option linter.unusedSimpArgs false
set_option linter.unusedVariables false
namespace Go.Proofs.YtebfahobllghnaaGreatDoor
namespace X
open Go.RowKit B
theorem SlOk.ev {ρ : Rho} {s : Tr SV} {θ : Th} {a : Act} {xs : List Operand} {x : Operand} {v : SV} (h : SlOk ρ s θ a xs) (hx : x ∈ xs) (hv : EvOk ρ s x v) : den ρ θ v = some (a.eval x) :=
  hv θ a fun k hk sv hsv => h k (by simp only [rdOs, List.mem_flatMap]; exact ⟨x, hx, hk⟩) sv hsv
theorem SlOk.evs {ρ : Rho} {s : Tr SV} {θ : Th} {a : Act} {xs ys : List Operand} {vs : List SV} (h : SlOk ρ s θ a xs) (hx : ∀ x ∈ ys, x ∈ xs) (hv : EvsOk ρ s ys vs) : dens ρ θ vs = some (ys.map a.eval) :=
  hv θ a fun k hk sv hsv => h k (by
    simp only [rdOs, List.mem_flatMap] at hk ⊢
    obtain ⟨x, h1, h2⟩ := hk
    exact ⟨x, hx x h1, h2⟩) sv hsv
theorem eq_both {P : Program} {t : Nat} {u v : Value} {r : Bool} {w : World} (h : ∀ d, (Op.equalIn (d + 1) t u v).run P w = .ok r w) (hb : ∀ t, (binOp .eql t u v) = (do pure (.bool (← Op.equal t u v))) ∧ (binOp .neq t u v) = (do pure (.bool (!(← Op.equal t u v))))) :
    (binOp .eql t u v).run P w = .ok (.bool r) w ∧ (binOp .neq t u v).run P w = .ok (.bool (!r)) w := by
  rw [(hb t).1, (hb t).2]
  have := h 9999
  simp [Op.equal, Op.maxDepth, this]
theorem nil_eq {P : Program} {ρ : Rho} {θ : Th} {t : Nat} {k : TK} {a b : SV} {u v : Value} {r : Bool} {w : World} (hk : kindT P t = k) (h1 : nilKind k a = true) (h2 : nilKind k b = true) (h3 : isNil b = some true) (h4 : isNil a = some r) (hu : den ρ θ a = some u) (hv : den ρ θ b = some v) :
    u ≠ .nilIface ∧ (∀ cs, u ≠ .agg cs) ∧ (binOp .eql t u v).run P w = .ok (.bool r) w ∧ (binOp .neq t u v).run P w = .ok (.bool (!r)) w := by
  have mp : ∀ {α β : Type} {o : Option α} {f : α → β} {x : β}, o.map f = some x → ∃ y, x = f y := fun h => by
    obtain ⟨y, _, h⟩ := Option.map_eq_some_iff.1 h; exact ⟨y, h.symm⟩
  cases k with
  | ptr e =>
    obtain ⟨d, hd, hk'⟩ := kindT_ok hk (by simp)
    rw [tk_ptr hk'] at hd
    have hb : v = .pointer none := by cases b <;> simp [nilKind] at h2 <;> simp [isNil] at h3; cases hv; rfl
    subst hb
    have ha : ∃ p, u = .pointer p ∧ p.isNone = r := by
      cases a <;> simp [nilKind] at h1 <;> simp [isNil] at h4 <;> subst h4
      · obtain ⟨y, rfl⟩ := mp hu; exact ⟨_, rfl, rfl⟩
      · cases hu; exact ⟨_, rfl, rfl⟩
      · cases hu; exact ⟨_, rfl, rfl⟩
    obtain ⟨p, rfl, hp⟩ := ha
    refine ⟨by simp, by simp, eq_both (fun d => ?_) fun t => ⟨by rfl, by rfl⟩⟩
    cases p <;> simp at hp <;> subst hp <;> simp [Op.equalIn, run_underlying hd]
  | slice e =>
    obtain ⟨d, hd, hk'⟩ := kindT_ok hk (by simp)
    rw [tk_slice hk'] at hd
    have hb : v = .slice none 0 0 := by cases b <;> simp [nilKind] at h2 <;> simp [isNil] at h3; cases hv; rfl
    subst hb
    have ha : ∃ p i j, u = .slice p i j ∧ p.isNone = r := by
      cases a <;> simp [nilKind] at h1 <;> simp [isNil] at h4 <;> subst h4
      · obtain ⟨y, rfl⟩ := mp hu; exact ⟨_, _, _, rfl, rfl⟩
      · obtain ⟨y, rfl⟩ := mp hu; exact ⟨_, _, _, rfl, rfl⟩
      · obtain ⟨y, rfl⟩ := mp hu; exact ⟨_, _, _, rfl, rfl⟩
      · cases hu; exact ⟨_, _, _, rfl, rfl⟩
    obtain ⟨p, i, j, rfl, hp⟩ := ha
    refine ⟨by simp, by simp, eq_both (fun d => ?_) fun t => ⟨by rfl, by rfl⟩⟩
    cases p <;> simp at hp <;> subst hp <;> simp [Op.equalIn, run_underlying hd]
  | map e e' =>
    obtain ⟨d, hd, hk'⟩ := kindT_ok hk (by simp)
    rw [tk_map hk'] at hd
    have hb : v = .map none := by cases b <;> simp [nilKind] at h2 <;> simp [isNil] at h3; cases hv; rfl
    subst hb
    have ha : ∃ p, u = .map p ∧ p.isNone = r := by
      cases a <;> simp [nilKind] at h1 <;> simp [isNil] at h4 <;> subst h4
      · cases hu; exact ⟨_, rfl, rfl⟩
      · obtain ⟨y, rfl⟩ := mp hu; exact ⟨_, rfl, rfl⟩
    obtain ⟨p, rfl, hp⟩ := ha
    refine ⟨by simp, by simp, eq_both (fun d => ?_) fun t => ⟨by rfl, by rfl⟩⟩
    cases p <;> simp at hp <;> subst hp <;> simp [Op.equalIn, run_underlying hd]
  | fn =>
    obtain ⟨d, hd, hk'⟩ := kindT_ok hk (by simp)
    obtain ⟨x, y, z, hd'⟩ := tk_fn hk'
    rw [hd'] at hd
    have hb : v = .nilFunc := by cases b <;> simp [nilKind] at h2 <;> simp [isNil] at h3; cases hv; rfl
    subst hb
    cases a <;> simp [nilKind] at h1 <;> simp [isNil] at h4 <;> subst h4
    · simp only [den, Option.bind_eq_some_iff, Option.map_eq_some_iff] at hu
      obtain ⟨a1, _, b1, _, rfl⟩ := hu
      exact ⟨by simp, by simp, eq_both (fun d => by simp [Op.equalIn, run_underlying hd]) fun t => ⟨by rfl, by rfl⟩⟩
    · cases hu
      exact ⟨by simp, by simp, eq_both (fun d => by simp [Op.equalIn, run_underlying hd]) fun t => ⟨by rfl, by rfl⟩⟩
  | _ => cases a <;> simp [nilKind] at h1
section
variable {P : Program} {ρ : Rho} {o : Oper} {s : Tr SV} {m : Mem} {nx : Nat} {pc : PC} {a : Act} {w w' : World}
theorem opBin_yl {op : BinOp} {t t' : TypeId} {x y : Operand} (hs : Sat ρ pc) (ho : o.op = .binOp op t x y t') : Yl (fun K => opBin P s m nx pc op t x y fun v m nx pc ft => K ⟨v, m, nx, pc, ft⟩) (OpOk P ρ o s m nx) := by
  have hop : o.op.operands.toList = [x, y] := by simp [ho, Op.operands]
  -- from what two values come to, with conditions turned
  have fin : ∀ {va vb v : SV} {pc' : PC}, Sat ρ pc' → EvOk ρ s x va → EvOk ρ s y vb → (∀ (θ : Th) (w : World) (u u' : Value), den ρ θ va = some u → den ρ θ vb = some u' → ∃ z, den ρ θ v = some z ∧ (eqGuard op t x y u u').run P w = .ok () w ∧ (binOp op t u u').run P w = .ok z w) → OpOk P ρ o s m nx ⟨v, m, nx, pc', .n⟩ := by
    intro va vb v pc' hs' hva hvb h
    refine OpOk.pure hs' fun a w θ hsl => ?_
    rw [hop] at hsl
    obtain ⟨z, h1, h2, h3⟩ := h θ w _ _ (hsl.ev (by simp) hva) (hsl.ev (by simp) hvb)
    exact ⟨z, r_bin ho rfl rfl h2 h3, h1⟩
  have gi : ∀ {w : World} {k j : IntKind} {p q : Int}, (eqGuard op t x y (.int k p) (.int j q)).run P w = .ok () w := guard_ok (by simp) (by simp)
  unfold opBin
  refine Yl.bind (evO_yl (ρ := ρ)) fun va hva => Yl.bind (evO_yl (ρ := ρ)) fun vb hvb => ?_
  split
  · rename_i k p j q
    split
    · refine Yl.map (fun v => (⟨v, m, nx, pc, .n⟩ : O5)) (shI_yl (j := j)) fun v hv => fin hs hva hvb fun θ w u u' e1 e2 => ?_
      cases e1; cases e2
      obtain ⟨z, h1, h2⟩ := hv
      exact ⟨z, h1 ρ θ, gi, h2 P w t⟩
    · refine Yl.map (fun v => (⟨v, m, nx, pc, .n⟩ : O5)) (shI_yl (j := j)) fun v hv => fin hs hva hvb fun θ w u u' e1 e2 => ?_
      cases e1; cases e2
      obtain ⟨z, h1, h2⟩ := hv
      exact ⟨z, h1 ρ θ, gi, h2 P w t⟩
    · rename_i n1 n2
      split
      · rename_i h
        have := ikEq_iff.1 h
        subst this
        refine Yl.map (fun v => (⟨v, m, nx, pc, .n⟩ : O5)) (binI_yl ⟨fun e => n1 e, fun e => n2 e⟩) fun v hv => fin hs hva hvb fun θ w u u' e1 e2 => ?_
        cases e1; cases e2
        obtain ⟨z, h1, h2⟩ := hv
        exact ⟨z, h1 ρ θ, gi, h2 P w t⟩
      · exact Yl.no
  · rename_i k p j q
    split
    · rename_i h
      have := ikEq_iff.1 h
      subst this
      refine Yl.bind2 (linX_yl hs) fun v pc' hv => Yl.pure (⟨v, m, nx, pc', .n⟩ : O5) (fin hv.1 hva hvb fun θ w u u' e1 e2 => ?_)
      cases e1; cases e2
      obtain ⟨_, z, h1, h2⟩ := hv
      exact ⟨z, h1 θ, gi, h2 P w t⟩
    · exact Yl.no
  · rename_i k p j q
    split
    · rename_i h
      have := ikEq_iff.1 h
      subst this
      refine Yl.bind2 (linX_yl hs) fun v pc' hv => Yl.pure (⟨v, m, nx, pc', .n⟩ : O5) (fin hv.1 hva hvb fun θ w u u' e1 e2 => ?_)
      cases e1; cases e2
      obtain ⟨_, z, h1, h2⟩ := hv
      rw [const_den] at h2
      exact ⟨z, h1 θ, gi, h2 P w t⟩
    · exact Yl.no
  · rename_i k p j q
    split
    · rename_i h
      have := ikEq_iff.1 h
      subst this
      refine Yl.bind2 (linQ_yl hs) fun v pc' hv => Yl.pure (⟨v, m, nx, pc', .n⟩ : O5) (fin hv.1 hva hvb fun θ w u u' e1 e2 => ?_)
      cases e1; cases e2
      obtain ⟨_, z, h1, h2⟩ := hv
      exact ⟨z, h1 θ, gi, h2 P w t⟩
    · exact Yl.no
  · rename_i l l'
    refine Yl.bind2 (binS_yl hs) fun v pc' hv => Yl.pure (⟨v, m, nx, pc', .n⟩ : O5) (fin hv.1 hva hvb fun θ w u u' e1 e2 => ?_)
    cases e1; cases e2
    obtain ⟨_, z, h1, h2⟩ := hv
    exact ⟨z, h1 θ, guard_ok (by simp) (by simp), h2 P w t⟩
  · rename_i b c
    split
    · rename_i hk
      obtain ⟨d, hd, hk'⟩ := kindT_ok hk (by simp)
      rw [tk_bool hk'] at hd
      refine Yl.map (fun v => (⟨v, m, nx, pc, .n⟩ : O5)) eqNeq_yl fun v hv => fin hs hva hvb fun θ w u u' e1 e2 => ?_
      cases e1; cases e2
      have h := eq_bool (P := P) (w := w) (b := b) (c := c) hd 9999
      rcases hv with ⟨rfl, rfl⟩ | ⟨rfl, rfl⟩
      · exact ⟨_, rfl, guard_ok (by simp) (by simp), by simp [binOp, Op.equal, Op.maxDepth, h]⟩
      · exact ⟨_, rfl, guard_ok (by simp) (by simp), by simp [binOp, Op.equal, Op.maxDepth, h]⟩
    · exact Yl.no
  · rename_i l l'
    split
    · rename_i hc
      split
      · rename_i fs hk
        obtain ⟨d, hd, hk'⟩ := kindT_ok hk (by simp)
        obtain ⟨F, rfl, hfs⟩ := tk_struct hk'
        unfold chkEq at hc
        rw [hd] at hc
        simp only [Bool.and_eq_true, Bool.not_eq_true'] at hc
        obtain ⟨⟨c1, c2⟩, c3⟩ := hc
        have hFo : P.fieldsOf t = F := by simp [Program.fieldsOf, hd]
        have hF' : P.underlying t = some (.struct (P.fieldsOf t)) := by rw [hFo]; exact hd
        subst hfs
        refine Yl.bind2 (eqCells_yl (i := 0) hs c3) fun r pc' hr => ?_
        refine Yl.map (fun v => (⟨v, m, nx, pc', .n⟩ : O5)) eqNeq_yl fun v hv => fin hr.1 hva hvb fun θ w u u' e1 e2 => ?_
        simp only [den, Option.map_eq_some_iff] at e1 e2
        obtain ⟨xs, g1, rfl⟩ := e1
        obtain ⟨ys, g2, rfl⟩ := e2
        have e3 : (Op.equalIn 10000 t (.agg xs.toArray) (.agg ys.toArray)).run P w = .ok r w := by
          rw [run_equalIn_struct (P := P) w 9999 t _ _ hF' c1, hFo]
          simpa using hr.2 θ [] [] xs ys 9998 w rfl rfl g1 g2
        rcases hv with ⟨rfl, rfl⟩ | ⟨rfl, rfl⟩
        · exact ⟨_, rfl, run_eqGuard_agg w .eql t x y _ _ c2, by rw [run_eql_struct, e3]; rfl⟩
        · exact ⟨_, rfl, run_eqGuard_agg w .neq t x y _ _ c2, by rw [run_neq_struct, e3]; rfl⟩
      · exact Yl.no
    · exact Yl.no
  · rename_i g i h j
    split
    · rename_i e hk
      split
      · rename_i y hy
        obtain ⟨ok⟩ := mkTy_ok hy
        split
        · rename_i hgh
          simp only [Bool.and_eq_true] at hgh
          have e0 := Nat.eq_of_beq_eq_true hgh.1
          subst e0
          have hsz : y.sz ≠ 0 := by have := Nat.le_of_ble_eq_true hgh.2; omega
          obtain ⟨d, hd, hk'⟩ := kindT_ok hk (by simp)
          rw [tk_ptr hk'] at hd
          refine Yl.map (fun v => (⟨v, m, nx, pc, .n⟩ : O5)) eqNeq_yl fun v hv => fin hs hva hvb fun θ w u u' e1 e2 => ?_
          simp only [den, Option.map_eq_some_iff] at e1 e2
          obtain ⟨q, g1, rfl⟩ := e1
          obtain ⟨q', g2, rfl⟩ := e2
          rw [g1] at g2; cases g2
          have h1 : (⟨q.1, i, none⟩ == (⟨q.1, j, none⟩ : Addr)) = Nat.beq i j := by
            rw [Bool.eq_iff_iff]; simp [Nat.beq_eq]
          have h2 : ∀ d, (Op.equalIn (d + 1) t (.pointer (some ⟨q.1, i, none⟩)) (.pointer (some ⟨q.1, j, none⟩))).run P w = .ok (Nat.beq i j) w := fun d => by
            simp [Op.equalIn, run_underlying hd, ok.size, hsz, sameAddr, h1]
          obtain ⟨h3, h4⟩ := eq_both h2 fun t => ⟨by rfl, by rfl⟩
          rcases hv with ⟨rfl, rfl⟩ | ⟨rfl, rfl⟩
          · exact ⟨_, rfl, guard_ok (by simp) (by simp), h3⟩
          · exact ⟨_, rfl, guard_ok (by simp) (by simp), h4⟩
        · exact Yl.no
      · exact Yl.no
    · exact Yl.no
  · rename_i g e
    split
    · rename_i y hk
      obtain ⟨d, hd, hk'⟩ := kindT_ok hk (by simp)
      rw [tk_ptr hk'] at hd
      refine Yl.bind2 (dec2_yl hs) fun b pc' hr => ?_
      refine Yl.map (fun v => (⟨v, m, nx, pc', .n⟩ : O5)) eqNeq_yl fun v hv => fin hr.2 hva hvb fun θ w u u' e1 e2 => ?_
      simp only [den, Option.map_eq_some_iff, Option.some.injEq] at e1 e2
      obtain ⟨q, g1, rfl⟩ := e1
      subst e2
      have h1 : b = decide (0 ≤ e.den ρ - 1) := by have h0 := hr.1; rw [sub_den] at h0; exact h0
      have h2 : ∀ d, (Op.equalIn (d + 1) t (.pointer (if e.den ρ ≤ 0 then none else some ⟨q.1, 0, none⟩)) (.pointer none)).run P w = .ok (!b) w := fun d => by
        by_cases hz : e.den ρ ≤ 0
        · have hb : b = false := by rw [h1]; simp; omega
          simp [Op.equalIn, run_underlying hd, hz, hb]
        · have hb : b = true := by rw [h1]; simp; omega
          simp [Op.equalIn, run_underlying hd, hz, hb]
      obtain ⟨h3, h4⟩ := eq_both h2 fun t => ⟨by rfl, by rfl⟩
      rcases hv with ⟨rfl, rfl⟩ | ⟨rfl, rfl⟩
      · exact ⟨_, rfl, guard_ok (by simp) (by simp), h3⟩
      · exact ⟨_, rfl, guard_ok (by simp) (by simp), h4⟩
    · exact Yl.no
  · split
    · rename_i h3
      split
      · rename_i h12
        simp only [Bool.and_eq_true] at h12
        split
        · rename_i r h4
          refine Yl.map (fun v => (⟨v, m, nx, pc, .n⟩ : O5)) eqNeq_yl fun v hv => fin hs hva hvb fun θ w u u' e1 e2 => ?_
          obtain ⟨g1, g2, g3, g4⟩ := nil_eq (w := w) rfl h12.1 h12.2 h3 h4 e1 e2
          rcases hv with ⟨rfl, rfl⟩ | ⟨rfl, rfl⟩
          · exact ⟨_, rfl, guard_ok g1 g2, g3⟩
          · exact ⟨_, rfl, guard_ok g1 g2, g4⟩
        · exact Yl.no
      · exact Yl.no
    · exact Yl.no
theorem opPick_yl {c x y : Operand} (hs : Sat ρ pc) (ho : o.op = .pick c x y) : Yl (fun K => opPick s m nx pc c x y fun v m nx pc ft => K ⟨v, m, nx, pc, ft⟩) (OpOk P ρ o s m nx) := by
  have hop : o.op.operands.toList = [c, x, y] := by simp [ho, Op.operands]
  unfold opPick
  refine Yl.bind (evO_yl (ρ := ρ)) fun vc hvc => ?_
  split
  · split
    · refine Yl.map (fun v => (⟨v, m, nx, pc, .n⟩ : O5)) (evO_yl (ρ := ρ)) fun v hv => OpOk.pure hs fun a w θ hsl => ?_
      rw [hop] at hsl
      have hc := hsl.ev (by simp) hvc
      exact ⟨_, r_pick ho (b := true) (Option.some.inj hc).symm (fun _ => rfl) (fun h => by cases h), hsl.ev (by simp) hv⟩
    · refine Yl.map (fun v => (⟨v, m, nx, pc, .n⟩ : O5)) (evO_yl (ρ := ρ)) fun v hv => OpOk.pure hs fun a w θ hsl => ?_
      rw [hop] at hsl
      have hc := hsl.ev (by simp) hvc
      exact ⟨_, r_pick ho (b := false) (Option.some.inj hc).symm (fun h => by cases h) (fun _ => rfl), hsl.ev (by simp) hv⟩
  · exact Yl.no
theorem opUn_yl {op : UnOp} {t : TypeId} {x : Operand} (hs : Sat ρ pc) (ho : o.op = .unOp op t x) : Yl (fun K => opUn s m nx pc op x fun v m nx pc ft => K ⟨v, m, nx, pc, ft⟩) (OpOk P ρ o s m nx) := by
  have hop : o.op.operands.toList = [x] := by simp [ho, Op.operands]
  unfold opUn
  refine Yl.bind (evO_yl (ρ := ρ)) fun v hv => ?_
  split
  · refine Yl.pure _ (OpOk.pure hs fun a w θ hsl => ?_)
    rw [hop] at hsl
    have hc := hsl.ev (by simp) hv
    exact ⟨_, r_not ho (Option.some.inj hc).symm, rfl⟩
  · rename_i n
    refine Yl.map (fun v => (⟨v, m, nx, pc, .n⟩ : O5)) wrK_yl fun r hr => OpOk.pure hs fun a w θ hsl => ?_
    rw [hop] at hsl
    have hc := hsl.ev (by simp) hv
    have hx : a.eval x = .int .i64 n := (Option.some.inj hc).symm
    exact ⟨.int .i64 (IntKind.i64.wrap (-n)), by simp [Runs, execOp, ho, hx, Op.unary, Op.intArith], by rw [hr]; rfl⟩
  · exact Yl.no
theorem opExtract_yl {x : Operand} {i : Nat} (hs : Sat ρ pc) (ho : o.op = .extract x i) : Yl (fun K => opExtract s m nx pc x i fun v m nx pc ft => K ⟨v, m, nx, pc, ft⟩) (OpOk P ρ o s m nx) := by
  have hop : o.op.operands.toList = [x] := by simp [ho, Op.operands]
  unfold opExtract
  refine Yl.bind (evO_yl (ρ := ρ)) fun v hv => ?_
  split
  · rename_i l
    refine Yl.map (fun v => (⟨v, m, nx, pc, .n⟩ : O5)) nthC_yl fun u hu => OpOk.pure hs fun a w θ hsl => ?_
    rw [hop] at hsl
    have hc := hsl.ev (by simp) hv
    simp only [den, Option.map_eq_some_iff] at hc
    obtain ⟨vs, g1, g2⟩ := hc
    obtain ⟨u', h1, h2⟩ := dens_get g1 hu
    exact ⟨u', r_extract ho g2.symm (by simpa using h1), h2⟩
  · exact Yl.no
theorem partC_yl {t : Nat} {y : Ty} (ok : TyOk P t y) {cs : List SV} {off : Nat} : Yl (partC y cs off) fun v => ∀ (θ : Th) (vs : List Value), dens ρ θ cs = some vs → ∃ u, den ρ θ v = some u ∧ ∀ w, (part t vs.toArray off).run P w = .ok u w := by
  unfold partC
  split
  · rename_i hag
    refine Yl.map _ segC_yl fun l hl θ vs hvs => ?_
    have hlen := dens_len hvs
    refine ⟨.agg ((vs.drop off).take y.sz).toArray, by simp [den, hl.2, dens_take _ (dens_drop _ hvs)], fun w => ?_⟩
    have e : vs.toArray.extract off (off + y.sz) = ((vs.drop off).take y.sz).toArray := by
      apply Array.ext'
      rw [Array.toList_extract]
      simp [List.extract]
    simp [part, ok.isAgg, hag, ok.size, e]
  · rename_i hag
    refine Yl.mono nthC_yl fun v hv θ vs hvs => ?_
    obtain ⟨u, h1, h2⟩ := dens_get hvs hv
    exact ⟨u, h2, fun w => by simp [part, ok.isAgg, hag, h1]⟩
theorem nthF_get : ∀ {l : List (Nat × Nat)} {i : Nat}, nthF l i = l[i]?
  | [], i => by cases i <;> rfl
  | a :: l, 0 => rfl
  | a :: l, i + 1 => by simp [nthF, nthF_get (l := l)]
theorem fieldT_ok {t f o : Nat} {y : Ty} (h : fieldT P t f = some (o, y)) : ∃ (F : Array Field) (fd : Field), P.underlying t = some (.struct F) ∧ F[f]? = some fd ∧ fd.offset = o ∧ Nonempty (TyOk P fd.type y) := by
  unfold fieldT at h
  split at h
  · rename_i fs hk
    split at h
    · rename_i o' ft hn
      split at h
      · rename_i y' hy
        cases h
        obtain ⟨d, hd, hk'⟩ := kindT_ok hk (by simp)
        obtain ⟨F, rfl, hfs⟩ := tk_struct hk'
        rw [nthF_get, hfs, List.getElem?_map] at hn
        cases hF : F.toList[f]? with
        | none => rw [hF] at hn; cases hn
        | some fd =>
          rw [hF] at hn
          simp at hn
          refine ⟨F, fd, hd, by simpa using hF, hn.1, ?_⟩
          rw [hn.2]; exact mkTy_ok hy
      · cases h
    · cases h
  · cases h
theorem opField_yl {t f : Nat} {x : Operand} (hs : Sat ρ pc) (ho : o.op = .field t x f) : Yl (fun K => opField P s m nx pc t x f fun v m nx pc ft => K ⟨v, m, nx, pc, ft⟩) (OpOk P ρ o s m nx) := by
  have hop : o.op.operands.toList = [x] := by simp [ho, Op.operands]
  unfold opField
  split
  · rename_i off y hf
    obtain ⟨F, fd, h1, h2, h3, ⟨ok⟩⟩ := fieldT_ok hf
    refine Yl.bind (evO_yl (ρ := ρ)) fun v hv => ?_
    split
    · rename_i l
      refine Yl.map (fun v => (⟨v, m, nx, pc, .n⟩ : O5)) (partC_yl (ρ := ρ) ok) fun u hu => OpOk.pure hs fun a w θ hsl => ?_
      rw [hop] at hsl
      have hc := hsl.ev (by simp) hv
      simp only [den, Option.map_eq_some_iff] at hc
      obtain ⟨vs, g1, g2⟩ := hc
      obtain ⟨u', q1, q2⟩ := hu θ vs g1
      refine ⟨u', ?_, q1⟩
      have := q2 w
      rw [← h3] at this
      simp [Runs, execOp, ho, ← g2, Instr.field, run_underlying h1, h2, asAgg, this]
    · exact Yl.no
  · exact Yl.no
theorem opFunc_yl {f : Fn} {fi ca : Array Operand} (hs : Sat ρ pc) (ho : o.op = .makeFunc f fi ca) : Yl (fun K => opFunc s m nx pc f fi.toList ca.toList fun v m nx pc ft => K ⟨v, m, nx, pc, ft⟩) (OpOk P ρ o s m nx) := by
  have hop : o.op.operands.toList = fi.toList ++ ca.toList := by simp [ho, Op.operands]
  unfold opFunc
  split
  · rename_i f
    refine Yl.bind (evL_yl (ρ := ρ)) fun vs hvs => ?_
    refine Yl.map (fun us => (⟨.fn f vs us, m, nx, pc, .n⟩ : O5)) (evL_yl (ρ := ρ)) fun us hus => OpOk.pure hs fun a w θ hsl => ?_
    rw [hop] at hsl
    have h1 := hsl.evs (fun x hx => by simp [hx]) hvs
    have h2 := hsl.evs (fun x hx => by simp [hx]) hus
    refine ⟨.func (.func f) (fi.map a.eval) (ca.map a.eval), by simp [Runs, execOp, ho, Instr.makeFunc], ?_⟩
    simp only [den, h1, h2, Option.bind_some, Option.map_some]
    congr 2 <;> apply Array.ext' <;> simp
  · exact Yl.no
theorem opNil_yl {x : Operand} (hs : Sat ρ pc) (ho : o.op = .nilCheck x) : Yl (fun K => opNil s m nx pc x fun v m nx pc ft => K ⟨v, m, nx, pc, ft⟩) (OpOk P ρ o s m nx) := by
  have hop : o.op.operands.toList = [x] := by simp [ho, Op.operands]
  have mp : ∀ {α β : Type} {o : Option α} {f : α → β} {x : β}, o.map f = some x → ∃ y, x = f y := fun h => by
    obtain ⟨y, _, h⟩ := Option.map_eq_some_iff.1 h; exact ⟨y, h.symm⟩
  unfold opNil
  refine Yl.bind (evO_yl (ρ := ρ)) fun v hv => ?_
  have go : (∀ (θ : Th) (u : Value), den ρ θ v = some u → ∀ (a : Act) (w : World), a.eval x = u → Runs P a o w u) → OpOk P ρ o s m nx ⟨v, m, nx, pc, .n⟩ := fun h => by
    refine OpOk.pure hs fun a w θ hsl => ?_
    rw [hop] at hsl
    have hc := hsl.ev (by simp) hv
    exact ⟨_, h θ _ hc a w rfl, hc⟩
  split
  · refine Yl.pure _ (go fun θ u hu a w hx => ?_)
    obtain ⟨y, rfl⟩ := mp hu
    simp [Runs, execOp, ho, hx]
  · refine Yl.pure _ (go fun θ u hu a w hx => ?_)
    cases hu
    simp [Runs, execOp, ho, hx]
  · refine Yl.pure _ (go fun θ u hu a w hx => ?_)
    simp only [den, Option.bind_eq_some_iff, Option.map_eq_some_iff] at hu
    obtain ⟨a1, _, b1, _, rfl⟩ := hu
    simp [Runs, execOp, ho, hx]
  · refine Yl.pure _ (go fun θ u hu a w hx => ?_)
    obtain ⟨y, rfl⟩ := mp hu
    simp [Runs, execOp, ho, hx]
  · refine Yl.pure _ (go fun θ u hu a w hx => ?_)
    obtain ⟨y, rfl⟩ := mp hu
    simp [Runs, execOp, ho, hx]
  · exact Yl.no
end
end X
end Go.Proofs.YtebfahobllghnaaGreatDoor
namespace Go.Proofs.YtebfahobllghnaaGreatDoor
namespace X
open Go.RowKit B
section
variable {ρ : Rho} {θ : Th} {w w' : World} {R R' : Nat → Option Blk}
def updT (θ : Th) (n : Nat) (x : Nat × Nat) : Th := fun t => if t = n then some x else θ t
theorem updT_le {n : Nat} {x : Nat × Nat} (h : θ n = none) : ThLe θ (updT θ n x) := fun t y e => by
  unfold updT
  by_cases ht : t = n
  · subst ht; rw [h] at e; cases e
  · rw [if_neg ht]; exact e
theorem SP.alloc {nx g c : Nat} {b : Blk} (hM : MemOk ρ θ R w) (hn : θ nx = none) (hx : Ext none' w w') (hg : w.heap.size ≤ g) (hb : HoldsB ρ (updT θ nx (g, c)) w' nx b) (hR : ∀ t b', R' t = some b' → (t = nx ∧ b' = b) ∨ (t ≠ nx ∧ R t = some b')) (hk : isHb b = 0 := by rfl) : SP ρ nx (nx + 1) θ R w (updT θ nx (g, c)) R' w' := by
  have cs : ∀ {fa : Bool}, ∀ t g', Own fa (updT θ nx (g, c)) R' t g' → (t = nx ∧ g' = g) ∨ (t ≠ nx ∧ Own fa θ R t g') := fun t g' ⟨x, e, f⟩ => by
    cases h : R' t with
    | none => exact absurd h f.ne
    | some b' =>
      rw [h] at f
      rcases hR t b' h with ⟨rfl, rfl⟩ | ⟨a, q⟩
      · simp [updT] at e; subst e; exact .inl ⟨rfl, (FtB_plain hk).1 f⟩
      · exact .inr ⟨a, x, by rwa [updT, if_neg a] at e, by rw [q]; exact f⟩
  refine ⟨updT_le hn, fun t ht => ?_, ⟨fun t b' h => ?_, fun s t g' hs ht => ?_⟩, hx.mono fun _ _ h => h.elim, fun g' ⟨t, ht⟩ => ?_⟩
  · by_cases e : t = nx
    · exact .inr ⟨by omega, by omega⟩
    · rw [updT, if_neg e] at ht; exact .inl ht
  · rcases hR t b' h with ⟨rfl, rfl⟩ | ⟨_, h'⟩
    · exact hb
    · exact (hM.holds t b' h').keep (updT_le hn) hx fun _ _ _ _ h => h
  · rcases cs s g' hs with ⟨rfl, a⟩ | ⟨a1, a2⟩ <;> rcases cs t g' ht with ⟨rfl, b⟩ | ⟨b1, b2⟩
    · rfl
    · have := hM.own_lt b2; omega
    · have := hM.own_lt a2; omega
    · exact hM.inj s t g' a2 b2
  · rcases cs t g' ht with ⟨rfl, a⟩ | ⟨_, a2⟩
    · exact .inr (by omega)
    · exact .inl ⟨t, a2⟩
theorem SP.turn {nx t0 g c : Nat} {b b0 : Blk} (hM : MemOk ρ θ R w) (h0 : R t0 = some b0) (hk0 : isHb b0 = 0) (hg : θ t0 = some (g, c)) (hx : Ext (fun k => k = g) w w') (hb : HoldsB ρ θ w' t0 b) (hR : ∀ t b', R' t = some b' → (t = t0 ∧ b' = b) ∨ (t ≠ t0 ∧ R t = some b')) (hk : isHb b = 0 := by rfl) : SP ρ nx nx θ R w θ R' w' := by
  have o0 : ∀ {fa : Bool}, Own fa θ R t0 g := ⟨_, hg, by rw [h0]; exact (FtB_plain hk0).2 rfl⟩
  have cs : ∀ {fa : Bool}, ∀ t g', Own fa θ R' t g' → Own fa θ R t g' := fun t g' ⟨x, e, f⟩ => by
    cases h : R' t with
    | none => exact absurd h f.ne
    | some b' =>
      rw [h] at f
      rcases hR t b' h with ⟨rfl, rfl⟩ | ⟨a, q⟩
      · exact ⟨x, e, by rw [h0]; exact FtB_kind (hk.trans hk0.symm) f⟩
      · exact ⟨x, e, by rw [q]; exact f⟩
  refine ⟨ThLe.refl _, fun t ht => .inl ht, ⟨fun t b' h => ?_, fun s t g' hs ht => hM.inj s t g' (cs s g' hs) (cs t g' ht)⟩, hx.mono fun k _ h => ⟨t0, by rw [h]; exact o0⟩, fun g' ⟨t, ht⟩ => .inl ⟨t, cs t g' ht⟩⟩
  rcases hR t b' h with ⟨rfl, rfl⟩ | ⟨e, h'⟩
  · exact hb
  · refine (hM.holds t b' h').keep (ThLe.refl _) hx fun x g' e1 f e2 => e ?_
    subst e2
    exact hM.inj t t0 _ ⟨x, e1, by rw [h']; exact f⟩ o0
theorem SP.moved {nx t0 g c : Nat} {b b0 : Blk} (hM : MemOk ρ θ R w) (hn : θ nx = none) (h0 : R t0 = some b0) (hk0 : isHb b0 = 0) (hg : θ t0 = some (g, c)) (hx : Ext (fun k => k = g) w w') (hb : HoldsB ρ (updT θ nx (g, c)) w' nx b) (hR : ∀ t b', R' t = some b' → (t = nx ∧ b' = b) ∨ (t ≠ nx ∧ t ≠ t0 ∧ R t = some b')) (hk : isHb b = 0 := by rfl) : SP ρ nx (nx + 1) θ R w (updT θ nx (g, c)) R' w' := by
  have o0 : ∀ {fa : Bool}, Own fa θ R t0 g := ⟨_, hg, by rw [h0]; exact (FtB_plain hk0).2 rfl⟩
  have cs : ∀ {fa : Bool}, ∀ t g', Own fa (updT θ nx (g, c)) R' t g' → (t = nx ∧ g' = g) ∨ (t ≠ nx ∧ t ≠ t0 ∧ Own fa θ R t g') := fun t g' ⟨x, e, f⟩ => by
    cases h : R' t with
    | none => exact absurd h f.ne
    | some b' =>
      rw [h] at f
      rcases hR t b' h with ⟨rfl, rfl⟩ | ⟨a, a', q⟩
      · simp [updT] at e; subst e; exact .inl ⟨rfl, (FtB_plain hk).1 f⟩
      · exact .inr ⟨a, a', x, by rwa [updT, if_neg a] at e, by rw [q]; exact f⟩
  refine ⟨updT_le hn, fun t ht => ?_, ⟨fun t b' h => ?_, fun s t g' hs ht => ?_⟩, hx.mono fun k _ h => ⟨t0, by rw [h]; exact o0⟩, fun g' ⟨t, ht⟩ => ?_⟩
  · by_cases e : t = nx
    · exact .inr ⟨by omega, by omega⟩
    · rw [updT, if_neg e] at ht; exact .inl ht
  · rcases hR t b' h with ⟨rfl, rfl⟩ | ⟨_, e', h'⟩
    · exact hb
    · refine (hM.holds t b' h').keep (updT_le hn) hx fun x g' e1 f e2 => e' ?_
      subst e2
      exact hM.inj t t0 _ ⟨x, e1, by rw [h']; exact f⟩ o0
  · rcases cs s g' hs with ⟨rfl, a⟩ | ⟨a1, a2, a3⟩ <;> rcases cs t g' ht with ⟨rfl, b⟩ | ⟨b1, b2, b3⟩
    · rfl
    · exact absurd (hM.inj t t0 g' b3.tr (by rw [a]; exact o0)) b2
    · exact absurd (hM.inj s t0 g' a3 (by rw [b]; exact o0)) a2
    · exact hM.inj s t g' a3 b3
  · rcases cs t g' ht with ⟨rfl, a⟩ | ⟨_, _, a3⟩
    · exact .inl ⟨t0, by rw [a]; exact o0⟩
    · exact .inl ⟨t, a3⟩
theorem SP.less {nx nx' : Nat} {θ' : Th} {R2 : Nat → Option Blk} (h : SP ρ nx nx' θ R w θ' R' w') (hs : ∀ t b, R2 t = some b → R' t = some b) : SP ρ nx nx' θ R w θ' R2 w' :=
  ⟨h.le, h.new, h.mem.sub hs, h.ext, fun g ⟨t, x, e, f⟩ => h.own g ⟨t, x, e, by
    cases hr : R2 t with
    | none => exact absurd hr f.ne
    | some b => rw [hr] at f; rw [hs t b hr]; exact f⟩⟩
end
section
variable {P : Program} {ρ : Rho} {o : Oper} {s : Tr SV} {m : Mem} {nx : Nat} {pc : PC} {a : Act} {w w' : World} {θ : Th}
theorem newB_yl {b : Blk} : Yl (fun K => newB m nx b fun m' n' => K (m', n')) fun r => r.2 = nx + 1 ∧ ∀ t, r.1.get t = if t = nx then some b else m.get t := by
  unfold newB
  refine Yl.bind frn_yl fun n hn => ?_
  subst hn
  intro K hk
  obtain ⟨m', h1, h2, h3⟩ := Tr.set_spec hk
  exact ⟨(m', n + 1), ⟨rfl, h2⟩, h1, fun K' hk' => h3 _ hk'⟩
theorem set_yl {α : Type} {t : Tr α} {k : Nat} {x : Option α} : Yl (t.set k x) fun t' => ∀ j, t'.get j = if j = k then x else t.get j := fun K hk => by
  obtain ⟨t', h1, h2, h3⟩ := Tr.set_spec hk
  exact ⟨t', h2, h1, h3⟩
theorem OpOk.new1 {v : SV} {b : Blk} {m' : Mem} (hs : Sat ρ pc) (hm : ∀ t, m'.get t = if t = nx then some b else m.get t) (hk : isHb b = 0)
    (h : ∀ (a : Act) (w : World) (θ : Th), SlOk ρ s θ a o.op.operands.toList → θ nx = none → ∃ u w' g c, (execOp a.eval o).run P w = .ok (.value u) w' ∧ Ext none' w w' ∧ w.heap.size ≤ g ∧ HoldsB ρ (updT θ nx (g, c)) w' nx b ∧ den ρ (updT θ nx (g, c)) v = some u) :
    OpOk P ρ o s m nx ⟨v, m', nx + 1, pc, .w [nx]⟩ where
  pc := hs
  le := Nat.le_succ _
  off := fun t ht => by
    have : t ≠ nx := fun e => ht (by simp [tc, e])
    rw [hm, if_neg this]
  rd := fun _ h => by cases h
  new := fun t h1 h2 => by
    by_cases e : t = nx
    · subst e; exact ⟨Nat.le_refl _, Nat.lt_succ_self _⟩
    · rw [hm, if_neg e] at h2; exact absurd h1 h2
  run := fun a w θ h1 h2 h3 => by
    obtain ⟨u, w', g, c, k1, k2, k3, k4, k5⟩ := h a w θ h1 (h3 nx (Nat.le_refl _) (Nat.lt_succ_self _))
    refine wp_val k1 ⟨u, _, rfl, SP.alloc h2 (h3 nx (Nat.le_refl _) (Nat.lt_succ_self _)) k2 k3 k4 (fun t b' hb => ?_) hk, k5⟩
    obtain ⟨g1, g2⟩ := subM_some hb
    have ht : t = nx := by simpa [tc] using g1
    subst ht
    rw [hm, if_pos rfl] at g2
    exact .inl ⟨rfl, (Option.some.inj g2).symm⟩
theorem cell_at {g off j : Nat} : w.cell? ((⟨g, off, none⟩ : Addr).add j) = w.cell? ⟨g, off + j, none⟩ := by
  unfold Addr.add
  split
  · rename_i h; subst h; rfl
  · rfl
theorem HoldsB.cells {t ty : Nat} {cs : List SV} {ex : Bool} (h : HoldsB ρ θ w t (.ce ty cs ex)) : ∃ g c vs, θ t = some (g, c) ∧ dens ρ θ cs = some vs ∧ (∀ v ∈ vs, v.oneCell' = true) ∧ (∀ j u, vs[j]? = some u → w.cell? ⟨g, j, none⟩ = some u) ∧ vs.length ≤ c := by
  obtain ⟨g, c, vs, arr, rest, h1, h2, h3, h4, h5, h6, _⟩ := h
  refine ⟨g, c, vs, h1, h4, h5, fun j u hj => ?_, ?_⟩
  · have hlt := (List.getElem?_eq_some_iff.1 hj).1
    have : arr[j]? = some u := by
      rw [← Array.getElem?_toList, h6, List.getElem?_append_left hlt]; exact hj
    simp [World.cell?, h2, this]
  · rw [← h3, ← Array.length_toList, h6]; simp
theorem opLoad_yl {t : Nat} {x : Operand} (hs : Sat ρ pc) (ho : o.op = .load t x) : Yl (fun K => opLoad P s m nx pc t x fun v m nx pc ft => K ⟨v, m, nx, pc, ft⟩) (OpOk P ρ o s m nx) := by
  have hop : o.op.operands.toList = [x] := by simp [ho, Op.operands]
  unfold opLoad
  split
  · rename_i y hy
    obtain ⟨ok⟩ := mkTy_ok hy
    refine Yl.bind (evO_yl (ρ := ρ)) fun v hv => ?_
    split
    · rename_i g off
      split
      · rename_i ty cs ex hg
        unfold partC
        split
        · rename_i hag
          refine Yl.map (fun l => (⟨.ag l, m, nx, pc, .r g⟩ : O5)) segC_yl fun l hl => OpOk.read hs fun a w θ hsl hb => ?_
          rw [hop] at hsl
          have hc := hsl.ev (by simp) hv
          obtain ⟨q, c, vs, h1, h2, h3, h4, h5⟩ := (hb _ hg).cells
          simp only [den, h1, Option.map_some, Option.some.injEq] at hc
          have hlen := dens_len h2
          refine ⟨.agg ((vs.drop off).take y.sz).toArray, ?_, by simp [den, hl.2, dens_take _ (dens_drop _ h2)]⟩
          refine r_loadN ho (fun w => by rw [ok.isAgg, hag]) (fun w => ok.size w) hc.symm (by simp; omega) fun j u hj => ?_
          rw [cell_at]
          refine h4 _ u ?_
          have hj1 : j < y.sz := by have := (List.getElem?_eq_some_iff.1 hj).1; simp at this; omega
          rw [List.getElem?_take_of_lt hj1, List.getElem?_drop] at hj
          exact hj
        · rename_i hag
          refine Yl.map (fun u => (⟨u, m, nx, pc, .r g⟩ : O5)) nthC_yl fun u hu => OpOk.read hs fun a w θ hsl hb => ?_
          rw [hop] at hsl
          have hc := hsl.ev (by simp) hv
          obtain ⟨q, c, vs, h1, h2, h3, h4, h5⟩ := (hb _ hg).cells
          simp only [den, h1, Option.map_some, Option.some.injEq] at hc
          obtain ⟨u', g1, g2⟩ := dens_get h2 hu
          exact ⟨u', r_load1 ho (fun w => by rw [ok.isAgg, hag]) hc.symm (h4 _ _ g1), g2⟩
      · exact Yl.no
    · rename_i g off
      split
      · rename_i cs hg
        unfold partC
        split
        · rename_i hag
          refine Yl.map (fun l => (⟨.ag l, m, nx, pc, .r g⟩ : O5)) segC_yl fun l hl => OpOk.read hs fun a w θ hsl hb => ?_
          rw [hop] at hsl
          have hc := hsl.ev (by simp) hv
          obtain ⟨q, c, vs, h1, h2, h3, h4⟩ := hb _ hg
          simp only [den, h1, Option.map_some, Option.some.injEq] at hc
          have hlen := dens_len h3
          refine ⟨.agg ((vs.drop off).take y.sz).toArray, ?_, by simp [den, hl.2, dens_take _ (dens_drop _ h3)]⟩
          refine r_loadN ho (fun w => by rw [ok.isAgg, hag]) (fun w => ok.size w) hc.symm (by simp; omega) fun j u hj => ?_
          rw [add_add]
          refine h4 _ u ?_
          have hj1 : j < y.sz := by have := (List.getElem?_eq_some_iff.1 hj).1; simp at this; omega
          rw [List.getElem?_take_of_lt hj1, List.getElem?_drop] at hj
          exact hj
        · rename_i hag
          refine Yl.map (fun u => (⟨u, m, nx, pc, .r g⟩ : O5)) nthC_yl fun u hu => OpOk.read hs fun a w θ hsl hb => ?_
          rw [hop] at hsl
          have hc := hsl.ev (by simp) hv
          obtain ⟨q, c, vs, h1, h2, h3, h4⟩ := hb _ hg
          simp only [den, h1, Option.map_some, Option.some.injEq] at hc
          obtain ⟨u', g1, g2⟩ := dens_get h3 hu
          exact ⟨u', r_load1 ho (fun w => by rw [ok.isAgg, hag]) hc.symm (h4 _ _ g1), g2⟩
      · rename_i n b hg
        split
        · exact Yl.no
        · rename_i hag
          split
          · rename_i hn
            split
            · rename_i hp
              have hn : n < 10000 := by simpa [Nat.blt_eq] using hn
              have hp := proves_ok hp hs
              have hat : ρ.at (2 * n) = ρ.v n := Rho.at_v ρ n
              rw [sub_den, const_den] at hp
              simp only [Lin.den, dts, show Nat.mul 2 n = 2 * n from rfl, hat, Int.ofNat_eq_natCast] at hp
              refine Yl.map (fun k => (⟨.x .i64 (.mk 0 [(k, 1)]), m, nx, pc, .r g⟩ : O5)) frn_yl fun k hk => OpOk.read hs fun a w θ hsl hb => ?_
              rw [hop] at hsl
              have hc := hsl.ev (by simp) hv
              obtain ⟨q, c, h1, h2, h3⟩ := hb _ hg
              simp only [den, h1, Option.map_some, Option.some.injEq] at hc
              have := h3 off (by unfold cqN; rw [if_pos hn]; omega)
              refine ⟨_, r_load1 ho (fun w => by rw [ok.isAgg, hag]) hc.symm this, ?_⟩
              unfold cqV
              rw [if_pos hn]
              simp only [den, Lin.den, dts, hk, show Nat.mul 2 (Nat.add b off) = 2 * (b + off) from rfl, Rho.at_v]
              congr 2
              omega
            · exact Yl.no
          · rename_i hn
            split
            · rename_i hp
              have hn : ¬ n < 10000 := fun q => by
                have : Nat.blt n 10000 = true := by simpa [Nat.blt_eq] using q
                rw [hn] at this; cases this
              have hp := proves_ok hp hs
              have hat : ρ.at (2 * n) = ρ.v n := Rho.at_v ρ n
              rw [sub_den, const_den] at hp
              simp only [Lin.den, dts, show Nat.mul 2 n = 2 * n from rfl, hat, Int.ofNat_eq_natCast] at hp
              refine Yl.map (fun k => (⟨.s [.a k], m, nx, pc, .r g⟩ : O5)) frn_yl fun k hk => OpOk.read hs fun a w θ hsl hb => ?_
              rw [hop] at hsl
              have hc := hsl.ev (by simp) hv
              obtain ⟨q, c, h1, h2, h3⟩ := hb _ hg
              simp only [den, h1, Option.map_some, Option.some.injEq] at hc
              have := h3 off (by unfold cqN; rw [if_neg hn]; omega)
              refine ⟨_, r_load1 ho (fun w => by rw [ok.isAgg, hag]) hc.symm this, ?_⟩
              unfold cqV
              rw [if_neg hn]
              show some (Value.string (bstr (denS ρ [.a k]))) = _
              rw [hk]
              simp [denS, Pc.den]
            · exact Yl.no
      · exact Yl.no
    · exact Yl.no
  · exact Yl.no
theorem opFieldAddr_yl {t f : Nat} {x : Operand} (hs : Sat ρ pc) (ho : o.op = .fieldAddr t x f) : Yl (fun K => opFieldAddr P s m nx pc t x f fun v m nx pc ft => K ⟨v, m, nx, pc, ft⟩) (OpOk P ρ o s m nx) := by
  have hop : o.op.operands.toList = [x] := by simp [ho, Op.operands]
  unfold opFieldAddr
  split
  · rename_i off y hf
    obtain ⟨F, fd, h1, h2, h3, ⟨ok⟩⟩ := fieldT_ok hf
    split
    · rename_i hsz
      have hsz := Nat.le_of_ble_eq_true hsz
      refine Yl.bind (evO_yl (ρ := ρ)) fun v hv => ?_
      split
      · rename_i g i
        refine Yl.map (fun k => (⟨.p g k, m, nx, pc, .n⟩ : O5)) frn_yl fun k hk => OpOk.pure hs fun a w θ hsl => ?_
        rw [hop] at hsl
        have hc := hsl.ev (by simp) hv
        simp only [den, Option.map_eq_some_iff] at hc
        obtain ⟨q, g1, g2⟩ := hc
        refine ⟨_, r_fieldAddr (m := y.sz - 1) ho h1 h2 h3 (fun w => by rw [ok.size]; congr 1; omega) g2.symm, ?_⟩
        simp only [den, g1, Option.map_some, Option.some.injEq, Value.pointer.injEq, hk]
        unfold Addr.add
        split
        · rename_i h; show _ = _; simp [h]
        · rfl
      · exact Yl.no
    · exact Yl.no
  · exact Yl.no
theorem opIndexAddr_yl {t : Nat} {x y : Operand} (hs : Sat ρ pc) (ho : o.op = .indexAddr t x y) : Yl (fun K => opIndexAddr P s m nx pc t x y fun v m nx pc ft => K ⟨v, m, nx, pc, ft⟩) (OpOk P ρ o s m nx) := by
  have hop : o.op.operands.toList = [x, y] := by simp [ho, Op.operands]
  have add : ∀ (g off k : Nat), (⟨g, off, none⟩ : Addr).add k = ⟨g, off + k, none⟩ := fun g off k => by
    unfold Addr.add; split
    · rename_i h; simp [h]
    · rfl
  unfold opIndexAddr
  refine Yl.bind (evO_yl (ρ := ρ)) fun v hv => Yl.bind (evO_yl (ρ := ρ)) fun i hi => ?_
  split
  · rename_i g off len cap k n e hk
    split
    · rename_i ey hey
      obtain ⟨ok⟩ := mkTy_ok hey
      obtain ⟨d, hd, hk'⟩ := kindT_ok hk (by simp)
      rw [tk_slice hk'] at hd
      split
      · rename_i hlt
        have hlt : n < len := by simpa [Nat.blt_eq] using hlt
        refine Yl.map (fun k => (⟨.p g k, m, nx, pc, .n⟩ : O5)) frn_yl fun k' hk' => OpOk.pure hs fun a w θ hsl => ?_
        rw [hop] at hsl
        have hc := hsl.ev (by simp) hv
        have hc2 := hsl.ev (by simp) hi
        simp only [den, Option.map_eq_some_iff] at hc
        obtain ⟨q, g1, g2⟩ := hc
        have hy : a.eval y = .int k n := (Option.some.inj hc2).symm
        refine ⟨.pointer (some ⟨q.1, off + n * ey.sz, none⟩), ?_, by simp only [den, g1, Option.map_some, hk']; rfl⟩
        have h0 : (0 : Int) ≤ (n : Int) := by omega
        have h1 : (n : Int) < (len : Int) := by omega
        simp [Runs, execOp, ho, ← g2, hy, Instr.indexAt, run_underlying hd, ok.size, asIntOf, h0, hlt, add]
      · exact Yl.no
    · exact Yl.no
  · rename_i g off k n c e hk
    split
    · rename_i ey hey
      obtain ⟨ok⟩ := mkTy_ok hey
      obtain ⟨d, hd, hk'⟩ := kindT_ok hk (by simp)
      rw [tk_arr hk'] at hd
      split
      · rename_i hlt
        have hlt : n < c := by simpa [Nat.blt_eq] using hlt
        refine Yl.map (fun k => (⟨.p g k, m, nx, pc, .n⟩ : O5)) frn_yl fun k' hk' => OpOk.pure hs fun a w θ hsl => ?_
        rw [hop] at hsl
        have hc := hsl.ev (by simp) hv
        have hc2 := hsl.ev (by simp) hi
        simp only [den, Option.map_eq_some_iff] at hc
        obtain ⟨q, g1, g2⟩ := hc
        have hy : a.eval y = .int k n := (Option.some.inj hc2).symm
        refine ⟨.pointer (some ⟨q.1, off + n * ey.sz, none⟩), ?_, by simp only [den, g1, Option.map_some, hk']; rfl⟩
        have h0 : (0 : Int) ≤ (n : Int) := by omega
        have h1 : (n : Int) < (c : Int) := by omega
        simp [Runs, execOp, ho, ← g2, hy, Instr.indexAt, Instr.sureAddr, run_underlying hd, ok.size, asIntOf, h0, hlt, add]
      · exact Yl.no
    · exact Yl.no
  · rename_i g len k n e hk
    split
    · rename_i ey hey
      obtain ⟨ok⟩ := mkTy_ok hey
      obtain ⟨d, hd, hk'⟩ := kindT_ok hk (by simp)
      rw [tk_slice hk'] at hd
      split
      · rename_i hlt
        have hlt : (n : Int) < len.den ρ := by
          have := proves_ok hlt hs
          rw [sub_den, const_den] at this
          simp only [Int.ofNat_eq_natCast] at this
          omega
        refine Yl.map (fun k => (⟨.pv g k, m, nx, pc, .n⟩ : O5)) frn_yl fun k' hk' => OpOk.pure hs fun a w θ hsl => ?_
        rw [hop] at hsl
        have hc := hsl.ev (by simp) hv
        have hc2 := hsl.ev (by simp) hi
        simp only [den, Option.bind_eq_some_iff] at hc
        obtain ⟨⟨q, c⟩, g1, g2⟩ := hc
        have hy : a.eval y = .int k n := (Option.some.inj hc2).symm
        cases c with
        | zero =>
          simp only at g2
          rw [if_neg (by omega)] at g2
          cases g2
        | succ c =>
          simp only at g2
          rw [if_pos (by omega)] at g2
          simp only [Option.some.injEq] at g2
          refine ⟨.pointer (some ((adrC (q, c)).add (n * ey.sz))), ?_, by simp only [den, g1, Option.map_some, hk']; rfl⟩
          have h0 : (0 : Int) ≤ (n : Int) := by omega
          have h1 : (n : Int) < ((len.den ρ).toNat : Int) := by omega
          have h2 : n < (len.den ρ).toNat := by omega
          simp [Runs, execOp, ho, ← g2, hy, Instr.indexAt, run_underlying hd, ok.size, asIntOf, h0, h2]
      · exact Yl.no
    · exact Yl.no
  · rename_i g off k n c e hk
    split
    · rename_i ey hey
      obtain ⟨ok⟩ := mkTy_ok hey
      obtain ⟨d, hd, hk'⟩ := kindT_ok hk (by simp)
      rw [tk_arr hk'] at hd
      split
      · rename_i hlt
        have hlt : n < c := by simpa [Nat.blt_eq] using hlt
        refine Yl.map (fun k => (⟨.pv g k, m, nx, pc, .n⟩ : O5)) frn_yl fun k' hk' => OpOk.pure hs fun a w θ hsl => ?_
        rw [hop] at hsl
        have hc := hsl.ev (by simp) hv
        have hc2 := hsl.ev (by simp) hi
        simp only [den, Option.map_eq_some_iff] at hc
        obtain ⟨q, g1, g2⟩ := hc
        have hy : a.eval y = .int k n := (Option.some.inj hc2).symm
        refine ⟨.pointer (some ((adrC (q.1, q.2 - 1)).add (off + n * ey.sz))), ?_, by simp only [den, g1, Option.map_some, hk']; rfl⟩
        have h0 : (0 : Int) ≤ (n : Int) := by omega
        have h1 : (n : Int) < (c : Int) := by omega
        simp [Runs, execOp, ho, ← g2, hy, Instr.indexAt, Instr.sureAddr, run_underlying hd, ok.size, asIntOf, h0, hlt, add_add]
      · exact Yl.no
    · exact Yl.no
  · exact Yl.no
theorem idxB_yl (hs : Sat ρ pc) : ∀ {l : Str} {e : Lin}, Yl (fun K => idxB pc l e fun v pc => K (v, pc)) fun r => Sat ρ r.2 ∧ 0 ≤ e.den ρ ∧ ∃ b : UInt8, (denS ρ l)[(e.den ρ).toNat]? = some b ∧ ∀ θ, den ρ θ r.1 = some (.int .u8 (b.toNat : Int))
  | [], e => Yl.no
  | .c a :: l, e => by
    simp only [idxB]
    split
    · rename_i hz
      have hz := zeroL_ok hs hz
      split
      · rename_i ha
        have ha := Nat.le_of_ble_eq_true ha
        refine Yl.pure (_, _) ⟨hs, by omega, UInt8.ofNat a, ?_, fun θ => ?_⟩
        · rw [hz, denS_cons]; simp [Pc.den]
        · simp only [den, Option.some.injEq, Value.int.injEq, true_and]
          simp; omega
      · exact Yl.no
    · refine Yl.mono (idxB_yl hs (l := l) (e := (Lin.mk (-1) []).add e)) fun r ⟨h1, h2, b, h3, h4⟩ => ⟨h1, ?_, b, ?_, h4⟩
      · rw [add_den, const_den] at h2; omega
      · rw [add_den, const_den] at h2 h3
        rw [denS_cons, show Pc.den ρ (.c a) = [UInt8.ofNat a] from rfl, List.singleton_append, show (e.den ρ).toNat = (-1 + e.den ρ).toNat + 1 by omega, List.getElem?_cons_succ]
        exact h3
  | .a i :: l, e => by
    simp only [idxB]
    split
    · rename_i hc
      simp only [Bool.and_eq_true] at hc
      have hz := zeroL_ok hs hc.1
      obtain ⟨h1, ⟨b, hb⟩, hv⟩ := one1_ok hs hc.2
      have hat := byte_at h1 hb hv
      have hlt : b.toNat < 256 := UInt8.toNat_lt _
      refine Yl.bind frn_yl fun k hk => ?_
      have hk : k = 8 * (i + 8000) + 3 := hk
      rw [← hk] at hat
      refine Yl.pure (_, _) ⟨fun x hx => ?_, by omega, b, ?_, fun θ => ?_⟩
      · rcases List.mem_cons.1 hx with rfl | hx
        · simp only [Lin.den, dts, hat]; omega
        · rcases List.mem_cons.1 hx with rfl | hx
          · simp only [Lin.den, dts, hat]; omega
          · exact hs x hx
      · rw [hz, denS_cons, show Pc.den ρ (.a i) = ρ.s i from rfl, hb]; simp
      · have h5 : (Lin.mk 0 [(k, 1)]).den ρ = ρ.at k := by simp [Lin.den, dts]
        simp only [den, h5, hat]
    · refine Yl.mono (idxB_yl hs (l := l) (e := e.add (.mk 0 [(4 * i + 1, -1)]))) fun r ⟨h1, h2, b, h3, h4⟩ => ?_
      have h5 : (e.add (.mk 0 [(4 * i + 1, -1)])).den ρ = e.den ρ - ((ρ.s i).length : Int) := by
        rw [add_den]; simp only [Lin.den, dts, Rho.at_l]; omega
      rw [h5] at h2 h3
      refine ⟨h1, by omega, b, ?_, h4⟩
      rw [denS_cons, show Pc.den ρ (.a i) = ρ.s i from rfl, List.getElem?_append_right (by omega)]
      rw [show (e.den ρ).toNat - (ρ.s i).length = (e.den ρ - ((ρ.s i).length : Int)).toNat by omega]
      exact h3
theorem opIndex_yl {t : Nat} {x y : Operand} (hs : Sat ρ pc) (ho : o.op = .index t x y) : Yl (fun K => opIndex P s m nx pc t x y fun v m nx pc ft => K ⟨v, m, nx, pc, ft⟩) (OpOk P ρ o s m nx) := by
  have hop : o.op.operands.toList = [x, y] := by simp [ho, Op.operands]
  unfold opIndex
  refine Yl.bind (evO_yl (ρ := ρ)) fun v hv => Yl.bind (evO_yl (ρ := ρ)) fun i hi => ?_
  split
  · rename_i l k n hk
    obtain ⟨d, hd, hk'⟩ := kindT_ok hk (by simp)
    rw [tk_str hk'] at hd
    have gen : ∀ {e : Lin}, (∀ θ a, SlOk ρ s θ a [x, y] → a.eval y = .int k (e.den ρ)) → Yl (fun K => idxB pc l e fun v pc => K (⟨v, m, nx, pc, .n⟩ : O5)) (OpOk P ρ o s m nx) := fun {e} hy => by
      refine Yl.map (F := fun K => idxB pc l e fun v pc => K (v, pc)) (fun r : SV × PC => (⟨r.1, m, nx, r.2, .n⟩ : O5)) (idxB_yl hs) fun r ⟨h1, h2, b, h3, h4⟩ => OpOk.pure h1 fun a w θ hsl => ?_
      rw [hop] at hsl
      have hx : a.eval x = .string (bstr (denS ρ l)) := (Option.some.inj (hsl.ev (by simp) hv)).symm
      have hlt := (List.getElem?_eq_some_iff.1 h3).1
      refine ⟨_, r_sindex (p := e.den ρ) ho hd hx (hy θ a hsl) h2 (by rw [bstr_size]; omega), ?_⟩
      rw [h4]
      have : (bstr (denS ρ l)).data.toList.getD (e.den ρ).toNat 0 = b := by
        rw [List.getD_eq_getElem?_getD]
        simp [bstr, h3]
      simp only [byteAt, this]
    split
    · refine Yl.map (fun a => (⟨.i .u8 (.ofNat a), m, nx, pc, .n⟩ : O5)) (nthS_yl (ρ := ρ)) fun b hb => OpOk.pure hs fun a w θ hsl => ?_
      rw [hop] at hsl
      have hx : a.eval x = .string (bstr (denS ρ l)) := (Option.some.inj (hsl.ev (by simp) hv)).symm
      have hy : a.eval y = .int k n := (Option.some.inj (hsl.ev (by simp) hi)).symm
      have hlt : n < (denS ρ l).length := (List.getElem?_eq_some_iff.1 hb.1).1
      refine ⟨_, r_sindex (p := n) ho hd hx hy (by omega) (by rw [bstr_size]; omega), ?_⟩
      have : (bstr (denS ρ l)).data.toList.getD (n : Int).toNat 0 = UInt8.ofNat b := by
        rw [List.getD_eq_getElem?_getD]
        simp [bstr, hb.1]
      simp only [den, byteAt, this, Option.some.injEq, Value.int.injEq, true_and]
      have h2 := hb.2
      simp
      omega
    · exact gen fun θ a hsl => by
        rw [const_den]
        exact (Option.some.inj (hsl.ev (by simp) hi)).symm
  · rename_i l k e hk
    obtain ⟨d, hd, hk'⟩ := kindT_ok hk (by simp)
    rw [tk_str hk'] at hd
    have gen : Yl (fun K => idxB pc l e fun v pc => K (⟨v, m, nx, pc, .n⟩ : O5)) (OpOk P ρ o s m nx) := by
      refine Yl.map (F := fun K => idxB pc l e fun v pc => K (v, pc)) (fun r : SV × PC => (⟨r.1, m, nx, r.2, .n⟩ : O5)) (idxB_yl hs) fun r ⟨h1, h2, b, h3, h4⟩ => OpOk.pure h1 fun a w θ hsl => ?_
      rw [hop] at hsl
      have hx : a.eval x = .string (bstr (denS ρ l)) := (Option.some.inj (hsl.ev (by simp) hv)).symm
      have hy : a.eval y = .int k (e.den ρ) := (Option.some.inj (hsl.ev (by simp) hi)).symm
      have hlt := (List.getElem?_eq_some_iff.1 h3).1
      refine ⟨_, r_sindex (p := e.den ρ) ho hd hx hy h2 (by rw [bstr_size]; omega), ?_⟩
      rw [h4]
      have : (bstr (denS ρ l)).data.toList.getD (e.den ρ).toNat 0 = b := by
        rw [List.getD_eq_getElem?_getD]
        simp [bstr, h3]
      simp only [byteAt, this]
    split
    · rename_i i j
      split
      · rename_i hc
        simp only [Bool.and_eq_true, Nat.blt_eq, Nat.beq_eq] at hc
        obtain ⟨⟨⟨c1, c2⟩, c3⟩, c4⟩ := hc
        have c2 : j % 2 = 0 := c2
        have d3 := proves_ok c3 hs
        have d4 := proves_ok c4 hs
        rw [sub_den, add_den, const_den, lenS_den] at d4
        obtain ⟨j, rfl⟩ : ∃ j', j = 2 * j' := ⟨j / 2, by omega⟩
        have ee : (Lin.mk 0 [(2 * j, 1)]).den ρ = ρ.v j := by simp [Lin.den, dts, Rho.at_v]
        rw [ee] at d3 d4
        have hden : denS ρ [.a i] = ρ.s i := by simp [denS, Pc.den]
        rw [hden] at d4
        refine Yl.bind frn_yl fun k hk => ?_
        have hk : k = 8 * (i + 16 * j) + 3 := by rw [hk]; show 8 * (i + 16 * (2 * j / 2)) + 3 = _; omega
        have hat : ρ.at k = (((ρ.s i).getD (ρ.v j).toNat 0).toNat : Int) := by rw [hk]; exact ρ.at_b i j c1
        have hb : ((ρ.s i).getD (ρ.v j).toNat 0).toNat < 256 := UInt8.toNat_lt _
        refine Yl.pure (⟨.x .u8 (.mk 0 [(k, 1)]), m, nx, .mk 0 [(k, 1)] :: .mk 255 [(k, -1)] :: pc, .n⟩ : O5) (OpOk.pure (fun e he => ?_) fun a w θ hsl => ?_)
        · rcases List.mem_cons.1 he with rfl | he
          · simp only [Lin.den, dts, hat]; omega
          · rcases List.mem_cons.1 he with rfl | he
            · simp only [Lin.den, dts, hat]; omega
            · exact hs e he
        · rw [hop] at hsl
          have hx : a.eval x = .string (bstr (denS ρ [.a i])) := (Option.some.inj (hsl.ev (by simp) hv)).symm
          have hy : a.eval y = .int _ ((Lin.mk 0 [(2 * j, 1)]).den ρ) := (Option.some.inj (hsl.ev (by simp) hi)).symm
          rw [ee] at hy
          rw [hden] at hx
          refine ⟨_, r_sindex (p := ρ.v j) ho hd hx hy d3 (by rw [bstr_size]; omega), ?_⟩
          have h5 : (Lin.mk 0 [(k, 1)]).den ρ = ρ.at k := by simp [Lin.den, dts]
          simp only [den, byteAt, h5, hat, bstr]
      · exact Yl.no
    · exact gen
  · rename_i l k n c e hk
    split
    · rename_i ey hey
      obtain ⟨ok⟩ := mkTy_ok hey
      obtain ⟨d, hd, hk'⟩ := kindT_ok hk (by simp)
      rw [tk_arr hk'] at hd
      split
      · rename_i hlt
        have hlt : n < c := by simpa [Nat.blt_eq] using hlt
        refine Yl.map (fun u => (⟨u, m, nx, pc, .n⟩ : O5)) (partC_yl (ρ := ρ) ok) fun u hu => OpOk.pure hs fun a w θ hsl => ?_
        rw [hop] at hsl
        have hc := hsl.ev (by simp) hv
        have hy : a.eval y = .int k n := (Option.some.inj (hsl.ev (by simp) hi)).symm
        simp only [den, Option.map_eq_some_iff] at hc
        obtain ⟨vs, g1, g2⟩ := hc
        obtain ⟨u', q1, q2⟩ := hu θ vs g1
        have h0 : (0 : Int) ≤ (n : Int) := by omega
        have h1 : (n : Int) < (c : Int) := by omega
        refine ⟨u', ?_, q1⟩
        have q3 : (part e vs.toArray (n * ey.sz)).run P w = .ok u' w := q2 w
        simp [Runs, execOp, ho, ← g2, hy, Instr.index, run_underlying hd, ok.size, asIntOf, h0, hlt, q3]
      · exact Yl.no
    · exact Yl.no
  · exact Yl.no
theorem holds_new {nx : Nat} {θ : Th} {ty : Nat} {cs : List SV} {vs rest : List Value} {ex : Bool} {w0 : World} (hn : θ nx = none) (h1 : dens ρ θ cs = some vs) (h2 : ∀ v ∈ vs, v.oneCell' = true) (h3 : ex = true → rest = []) :
    HoldsB ρ (updT θ nx (w0.heap.size, (vs ++ rest).length)) (w0.alloc (.cells (vs ++ rest).toArray ty)) nx (.ce ty cs ex) :=
  ⟨w0.heap.size, (vs ++ rest).length, vs, (vs ++ rest).toArray, rest, by simp [updT], heap_alloc_new _ _, by simp, dens_mono (updT_le hn) _ h1, h2, by simp, h3⟩
theorem opAlloc_yl {t : Nat} (hs : Sat ρ pc) (ho : o.op = .alloc t) : Yl (fun K => opAlloc P m nx pc t fun v m nx pc ft => K ⟨v, m, nx, pc, ft⟩) (OpOk P ρ o s m nx) := by
  unfold opAlloc
  split
  · rename_i y hy
    obtain ⟨ok⟩ := mkTy_ok hy
    refine Yl.bind2 newB_yl fun m' n' hm => ?_
    obtain ⟨e, hm⟩ := hm
    simp only at e hm
    subst e
    refine Yl.pure (⟨.p nx 0, m', nx + 1, pc, .w [nx]⟩ : O5) (OpOk.new1 hs hm rfl fun a w θ hsl hn => ?_)
    obtain ⟨h1, h2, h3⟩ := cstL_ok (ρ := ρ) (θ := θ) ok.zs
    have hb := holds_new (ρ := ρ) (w0 := w) (ty := t) (rest := []) (ex := true) hn h1 h2 fun _ => rfl
    rw [List.append_nil] at hb
    refine ⟨.pointer (some ⟨w.heap.size, 0, none⟩), w.alloc (.cells ok.z.cells t), w.heap.size, _, ?_, Ext.alloc _ _ _, Nat.le_refl _, by simpa using hb, by simp [den, updT]⟩
    simp [execOp, ho, Instr.alloc, ok.zero, newVar, newRow]
  · exact Yl.no
theorem allOne_ok : ∀ {l : List SV}, allOne l = true → ∀ v ∈ l, oneV v = true
  | [], _, v, h => by cases h
  | x :: l, h, v, hv => by
    simp only [allOne] at h
    split at h
    · rename_i hx
      rcases List.mem_cons.1 hv with rfl | hv
      · exact hx
      · exact allOne_ok h v hv
    · cases h
theorem oneV_ok {v : SV} {u : Value} (h : oneV v = true) (hu : den ρ θ v = some u) : u.oneCell' = true ∧ u.cells = #[u] := by
  have mp : ∀ {α β : Type} {o : Option α} {f : α → β} {x : β}, o.map f = some x → ∃ y, x = f y := fun h => by
    obtain ⟨y, _, h⟩ := Option.map_eq_some_iff.1 h; exact ⟨y, h.symm⟩
  cases v <;> simp only [oneV, Bool.false_eq_true] at h <;> first
    | (cases hu; exact ⟨rfl, rfl⟩)
    | (obtain ⟨y, rfl⟩ := mp hu; exact ⟨rfl, rfl⟩)
    | (simp only [den, Option.bind_eq_some_iff, Option.map_eq_some_iff] at hu
       obtain ⟨a1, _, b1, _, rfl⟩ := hu
       exact ⟨rfl, rfl⟩)
    | (simp only [den, Option.bind_eq_some_iff] at hu
       obtain ⟨a1, _, hu⟩ := hu
       split at hu
       · split at hu
         · cases hu; exact ⟨rfl, rfl⟩
         · cases hu
       · split at hu
         · cases hu; exact ⟨rfl, rfl⟩
         · cases hu)
theorem ones_ok : ∀ {l : List SV} {us : List Value}, allOne l = true → dens ρ θ l = some us → ∀ u ∈ us, u.oneCell' = true
  | [], us, _, h, u, hu => by cases h; cases hu
  | v :: l, us, ha, h, u, hu => by
    simp only [dens, Option.bind_eq_some_iff, Option.map_eq_some_iff] at h
    obtain ⟨x, h1, us', h2, rfl⟩ := h
    rcases List.mem_cons.1 hu with rfl | hu
    · exact (oneV_ok (allOne_ok ha v (by simp)) h1).1
    · simp only [allOne] at ha
      split at ha
      · exact ones_ok ha h2 u hu
      · cases ha
theorem cellsV_ok {v : SV} {u : Value} (ha : allOne (cellsV v) = true) (hu : den ρ θ v = some u) : dens ρ θ (cellsV v) = some u.cells.toList ∧ ∀ x ∈ u.cells.toList, x.oneCell' = true := by
  have key : dens ρ θ (cellsV v) = some u.cells.toList := by
    cases v with
    | ag l =>
      simp only [den, Option.map_eq_some_iff] at hu
      obtain ⟨vs, h1, rfl⟩ := hu
      simpa [cellsV, Value.cells] using h1
    | _ =>
      have h1 := oneV_ok (allOne_ok ha _ (List.mem_cons_self)) hu
      show dens ρ θ [_] = _
      simp only [dens, hu, h1.2, Option.bind_some, Option.map_some]
  exact ⟨key, ones_ok ha key⟩
theorem opBox_yl {t : Nat} {x : Operand} (hs : Sat ρ pc) (ho : o.op = .box t x) : Yl (fun K => opBox s m nx pc t x fun v m nx pc ft => K ⟨v, m, nx, pc, ft⟩) (OpOk P ρ o s m nx) := by
  have hop : o.op.operands.toList = [x] := by simp [ho, Op.operands]
  unfold opBox
  refine Yl.bind (evO_yl (ρ := ρ)) fun v hv => ?_
  split
  · rename_i ha
    refine Yl.bind2 newB_yl fun m' n' hm => ?_
    obtain ⟨e, hm⟩ := hm
    simp only at e hm
    subst e
    refine Yl.pure (⟨.p nx 0, m', nx + 1, pc, .w [nx]⟩ : O5) (OpOk.new1 hs hm rfl fun a w θ hsl hn => ?_)
    rw [hop] at hsl
    obtain ⟨h1, h2⟩ := cellsV_ok ha (hsl.ev (by simp) hv)
    have hb := holds_new (ρ := ρ) (w0 := w) (ty := t) (rest := []) (ex := true) hn h1 h2 fun _ => rfl
    rw [List.append_nil] at hb
    refine ⟨.pointer (some ⟨w.heap.size, 0, none⟩), w.alloc (.cells (a.eval x).cells t), w.heap.size, _, ?_, Ext.alloc _ _ _, Nat.le_refl _, by simpa using hb, by simp [den, updT]⟩
    simp [execOp, ho, Instr.box, newVar, newRow]
  · exact Yl.no
theorem opMakeMap_yl {t : Nat} {r : Option Operand} (hs : Sat ρ pc) (ho : o.op = .makeMap t r) : Yl (fun K => opMakeMap m nx pc r fun v m nx pc ft => K ⟨v, m, nx, pc, ft⟩) (OpOk P ρ o s m nx) := by
  unfold opMakeMap
  split
  · refine Yl.bind2 newB_yl fun m' n' hm => ?_
    obtain ⟨e, hm⟩ := hm
    simp only at e hm
    subst e
    refine Yl.pure (⟨.mp nx, m', nx + 1, pc, .w [nx]⟩ : O5) (OpOk.new1 hs hm rfl fun a w θ hsl hn => ?_)
    refine ⟨.map (some w.heap.size), w.alloc (.map #[] 0), w.heap.size, 0, ?_, Ext.alloc _ _ _, Nat.le_refl _, ⟨w.heap.size, 0, #[], by simp [updT], heap_alloc_new _ _, rfl⟩, by simp [den, updT]⟩
    simp [execOp, ho, Instr.makeMap, newObj]
    rfl
  · exact Yl.no
end
end X
end Go.Proofs.YtebfahobllghnaaGreatDoor
namespace Go.Proofs.YtebfahobllghnaaGreatDoor
namespace X
open Go.RowKit B
theorem fold_set : ∀ (vs : List Value) (off j : Nat) (cells : Array Value), off + j + vs.length ≤ cells.size → ((vs.zipIdx j).foldl (fun cs (c, j) => cs.setIfInBounds (off + j) c) cells).toList = splice cells.toList (off + j) vs
  | [], off, j, cells, h => by simp [splice]
  | v :: vs, off, j, cells, h => by
    simp only [List.zipIdx_cons, List.foldl_cons]
    rw [fold_set vs off (j + 1) _ (by simp at h ⊢; omega)]
    have hlt : off + j < cells.toList.length := by simp at h ⊢; omega
    simp only [Array.toList_setIfInBounds, splice, List.length_cons]
    rw [show off + (j + 1) = off + j + 1 by omega, List.take_succ_eq_append_getElem (by simpa using hlt), List.getElem_set_self, List.take_set_of_le (by omega)]
    simp only [List.append_assoc, List.singleton_append, List.cons_append]
    congr 2
    rw [show off + j + 1 + vs.length = off + j + (vs.length + 1) by omega, List.drop_set_of_lt (by omega)]
    simp
theorem dens_splice {ρ : Rho} {θ : Th} {cs vs : List SV} {zs us : List Value} (h : dens ρ θ cs = some zs) (h2 : dens ρ θ vs = some us) {off : Nat} : dens ρ θ (cs.take off ++ vs ++ cs.drop (off + vs.length)) = some (splice zs off us) := by
  unfold splice
  rw [← dens_len h2] 
  exact dens_append (dens_append (dens_take _ h) h2) (dens_drop _ h)
theorem splice_len {zs us : List Value} {off : Nat} (h : off + us.length ≤ zs.length) : (splice zs off us).length = zs.length := by
  unfold splice; simp; omega
theorem splice_mem {zs us : List Value} {off : Nat} {u : Value} (h : u ∈ splice zs off us) : u ∈ zs ∨ u ∈ us := by
  unfold splice at h
  simp only [List.mem_append] at h
  rcases h with (h | h) | h
  · exact .inl (List.mem_of_mem_take h)
  · exact .inr h
  · exact .inl (List.mem_of_mem_drop h)
section
variable {P : Program} {ρ : Rho} {o : Oper} {s : Tr SV} {m : Mem} {nx : Nat} {pc : PC} {a : Act} {w w' : World} {θ : Th}
theorem fillC_yl {t : Nat} (pl : Nat → Option (Nat × Nat)) (hpl : ∀ i o n, placeT P t i = some (o, n) → pl i = some (o, n)) : ∀ {ps : List (Nat × Operand)} {cs : List SV}, Yl (fillC P s t ps cs) fun out => ∀ (θ : Th) (a : Act) (xs : List Operand) (zs : List Value), SlOk ρ s θ a xs → (∀ p ∈ ps, p.2 ∈ xs) → dens ρ θ cs = some zs → (∀ v ∈ zs, v.oneCell' = true) →
    ∃ os : List Value, Instr.fill pl zs.toArray (ps.map fun p => (p.1, a.eval p.2)) = some os.toArray ∧ dens ρ θ out = some os ∧ os.length = zs.length ∧ ∀ v ∈ os, v.oneCell' = true
  | [], cs => Yl.pure cs fun θ a xs zs _ _ h h1 => ⟨zs, by simp [Instr.fill], h, rfl, h1⟩
  | (i, x) :: l, cs => by
    have e0 : fillC P s t ((i, x) :: l) cs = fun K => match placeT P t i with
      | some (o, n) => evO s x fun v => match Nat.beq (lenC (cellsV v) 0) n && allOne (cellsV v) with
        | true => setC cs o (cellsV v) fun cs => fillC P s t l cs K
        | false => false
      | none => false := rfl
    rw [e0]
    split
    · rename_i off n hp
      refine Yl.bind (evO_yl (ρ := ρ)) fun v hv => ?_
      split
      · rename_i hc
        simp only [Bool.and_eq_true, Nat.beq_eq, lenC0] at hc
        refine Yl.bind setC_yl fun cs' hcs' => ?_
        refine Yl.mono (fillC_yl pl hpl (ps := l) (cs := cs')) fun out ih θ a xs zs hsl hx hz h1 => ?_
        have hu := hsl.ev (hx (i, x) (by simp)) hv
        obtain ⟨g1, g2⟩ := cellsV_ok hc.2 hu
        have hlz := dens_len hz
        have hlu := dens_len g1
        have hcs2 : dens ρ θ cs' = some (splice zs off (a.eval x).cells.toList) := by rw [hcs'.2]; exact dens_splice hz g1
        have hfit : off + (a.eval x).cells.toList.length ≤ zs.length := by rw [hlu, hlz]; exact hcs'.1
        obtain ⟨os, q1, q2, q3, q4⟩ := ih θ a xs _ hsl (fun p hp => hx p (by simp [hp])) hcs2 fun u hu => (splice_mem hu).elim (h1 u) (g2 u)
        refine ⟨os, ?_, q2, by rw [q3, splice_len hfit], q4⟩
        simp only [List.map_cons, Instr.fill, hpl _ _ _ hp]
        have hsz : (a.eval x).cells.size = n := by rw [← Array.length_toList, hlu, hc.1]
        have hb : (decide ((a.eval x).cells.size ≠ n) || decide (off + (a.eval x).cells.size > zs.toArray.size)) = false := by
          rw [Array.length_toList] at hfit
          simp [hsz]; omega
        rw [hb]
        simp only [Bool.false_eq_true, if_false]
        rw [← q1]
        congr 1
        have hf := fold_set (a.eval x).cells.toList off 0 zs.toArray (by simpa using hfit)
        simp only [Nat.add_zero] at hf
        refine Array.ext' ?_
        rw [List.toList_toArray] at hf
        rw [← hf]
        simp only [← Array.foldl_toList, Array.toList_zipIdx]
      · exact Yl.no
    · exact Yl.no
theorem allTy_ok : ∀ {F : List Field}, allTy P (F.map fun f => (f.offset, f.type)) = true → ∃ pl, F.mapM (fun f => (P.info? f.type).map fun i => (f.offset, i.size)) = some pl ∧ ∀ (i : Nat) (fd : Field) (y : Ty), F[i]? = some fd → mkTy P fd.type = some y → pl[i]? = some (fd.offset, y.sz)
  | [], h => ⟨[], rfl, fun i fd y h => by simp at h⟩
  | f :: F, h => by
    simp only [List.map_cons, allTy] at h
    split at h
    · rename_i y hy
      obtain ⟨pl, h1, h2⟩ := allTy_ok h
      obtain ⟨ok⟩ := mkTy_ok hy
      refine ⟨(f.offset, y.sz) :: pl, ?_, fun i fd y' e1 e2 => ?_⟩
      · simp [List.mapM_cons, h1, ok.hi, ok.sz]
      · cases i with
        | zero => simp at e1; subst e1; rw [hy] at e2; cases e2; rfl
        | succ i => simpa using h2 i fd y' (by simpa using e1) e2
    · cases h
theorem parts_eq (a : Act) (parts : Array (Nat × Operand)) : (parts.map fun (i, x) => (i, a.eval x)).toList = parts.toList.map fun p => (p.1, a.eval p.2) := by
  rw [Array.toList_map]
theorem opBuild_yl {t : Nat} {parts : Array (Nat × Operand)} (hs : Sat ρ pc) (ho : o.op = .build t parts) : Yl (fun K => opBuild P s m nx pc t parts.toList fun v m nx pc ft => K ⟨v, m, nx, pc, ft⟩) (OpOk P ρ o s m nx) := by
  have hop : o.op.operands.toList = parts.toList.map (·.2) := by simp [ho, Op.operands]
  unfold opBuild
  split
  · rename_i y hy
    obtain ⟨ok⟩ := mkTy_ok hy
    have fin : ∀ {out : List SV} {pl : Nat → Option (Nat × Nat)}, (∀ a : Act, P.built t (parts.map fun (i, x) => (i, a.eval x)).toList = Instr.fill pl ok.z.cells (parts.toList.map fun p => (p.1, a.eval p.2))) →
        (∀ (θ : Th) (a : Act) (xs : List Operand) (zs : List Value), SlOk ρ s θ a xs → (∀ p ∈ parts.toList, p.2 ∈ xs) → dens ρ θ y.zero = some zs → (∀ v ∈ zs, v.oneCell' = true) →
          ∃ os : List Value, Instr.fill pl zs.toArray (parts.toList.map fun p => (p.1, a.eval p.2)) = some os.toArray ∧ dens ρ θ out = some os ∧ os.length = zs.length ∧ ∀ v ∈ os, v.oneCell' = true) → OpOk P ρ o s m nx ⟨.ag out, m, nx, pc, .n⟩ := by
      intro out pl hb hout
      refine OpOk.pure hs fun a w θ hsl => ?_
      rw [hop] at hsl
      obtain ⟨h1, h2, h3⟩ := cstL_ok (ρ := ρ) (θ := θ) ok.zs
      obtain ⟨os, q1, q2, _⟩ := hout θ a _ _ hsl (fun p hp => List.mem_map.2 ⟨p, hp, rfl⟩) h1 h2
      refine ⟨.agg os.toArray, ?_, by simp [den, q2]⟩
      have q3 := hb a
      rw [show ok.z.cells = ok.z.cells.toList.toArray from by simp, q1] at q3
      simp only [Runs, execOp, ho, Sem.run_bind, run_build w t _ _ q3, Result.andThen_ok]
      rfl
    split
    · rename_i fs hk
      split
      · rename_i hall
        have hk0 := ok.kind
        rw [hk] at hk0
        obtain ⟨F, hF, hfs⟩ := tk_struct hk0
        have hd := ok.hd
        rw [hF] at hd
        rw [hfs] at hall
        have hkT : kindT P t = .struct fs := by simp [kindT, hy, hk]
        obtain ⟨pl, g1, g2⟩ := allTy_ok hall
        refine Yl.map (fun cs => (⟨.ag cs, m, nx, pc, .n⟩ : O5)) (fillC_yl (ρ := ρ) (t := t) (pl.toArray[·]?) (fun i off n h => ?_)) fun out hout => fin (fun a => ?_) hout
        · simp only [placeT, hkT] at h
          split at h
          · rename_i o' y' hf
            cases h
            unfold fieldT at hf
            rw [hkT] at hf
            simp only at hf
            split at hf
            · rename_i o2 ft hn
              split at hf
              · rename_i y2 hy2
                cases hf
                rw [nthF_get, hfs, List.getElem?_map] at hn
                cases hFi : F.toList[i]? with
                | none => rw [hFi] at hn; cases hn
                | some fd =>
                  rw [hFi] at hn
                  simp at hn
                  have := g2 i fd y' hFi (by rw [hn.2]; exact hy2)
                  simp [this, hn.1]
              · cases hf
            · cases hf
          · cases h
        · unfold Program.built
          rw [ok.hi, hd]
          simp only [ok.hz, g1, parts_eq]
      · exact Yl.no
    · rename_i n e hk
      have hk0 := ok.kind
      rw [hk] at hk0
      have hd := ok.hd
      rw [tk_arr hk0] at hd
      have hkT : kindT P t = .arr n e := by simp [kindT, hy, hk]
      split
      · rename_i ye hye
        obtain ⟨oke⟩ := mkTy_ok hye
        refine Yl.map (fun cs => (⟨.ag cs, m, nx, pc, .n⟩ : O5)) (fillC_yl (ρ := ρ) (t := t) (fun i => some (i * ye.sz, ye.sz)) (fun i off n h => ?_)) fun out hout => fin (fun a => ?_) hout
        · simp only [placeT, hkT, hye] at h
          cases h; rfl
        · unfold Program.built
          rw [ok.hi, hd]
          simp only [ok.hz, oke.hi, parts_eq, oke.sz]
      · exact Yl.no
    · exact Yl.no
  · exact Yl.no
def repV (l : List Value) : Nat → List Value
  | 0 => []
  | n + 1 => l ++ repV l n
theorem repV_range (z : Array Value) : ∀ n, ((Array.range (n * z.size)).map (z[· % z.size]!)).toList = repV z.toList n
  | 0 => by simp [repV, Array.range_zero']
  | n + 1 => by
    have ih := repV_range z n
    simp only [Array.toList_map, Array.toList_range] at ih ⊢
    rw [show (n + 1) * z.size = z.size + n * z.size by rw [Nat.add_mul]; omega, List.range_add, List.map_append, List.map_map]
    simp only [repV]
    rw [← ih]
    congr 1
    · apply List.ext_getElem
      · simp
      · intro i h1 h2
        have hi : i < z.size := by simpa using h2
        simp [Nat.mod_eq_of_lt hi, hi]
    · apply List.map_congr_left
      intro i _
      simp
theorem repC_den {cs : List SV} {zs : List Value} (h : dens ρ θ cs = some zs) : ∀ n, dens ρ θ (repC cs n) = some (repV zs n)
  | 0 => rfl
  | n + 1 => dens_append h (repC_den h n)
theorem repV_mem {l : List Value} {v : Value} : ∀ {n}, v ∈ repV l n → v ∈ l
  | 0, h => by cases h
  | n + 1, h => by
    simp only [repV, List.mem_append] at h
    exact h.elim id repV_mem
theorem opBuildSlice_yl {t n : Nat} {parts : Array (Nat × Operand)} (hs : Sat ρ pc) (ho : o.op = .buildSlice t n parts) : Yl (fun K => opBuildSlice P s m nx pc t n parts.toList fun v m nx pc ft => K ⟨v, m, nx, pc, ft⟩) (OpOk P ρ o s m nx) := by
  have hop : o.op.operands.toList = parts.toList.map (·.2) := by simp [ho, Op.operands]
  unfold opBuildSlice
  split
  · rename_i e hk
    obtain ⟨d, hd, hk'⟩ := kindT_ok hk (by simp)
    rw [tk_slice hk'] at hd
    split
    · rename_i y hy
      obtain ⟨ok⟩ := mkTy_ok hy
      split
      · rename_i hc
        simp only [Bool.and_eq_true, Nat.ble_eq] at hc
        refine Yl.bind (fillC_yl (ρ := ρ) (t := t) (fun i => some (i * y.sz, y.sz)) (fun i off n h => by
          simp only [placeT, hk, hy] at h; cases h; rfl)) fun out hout => ?_
        refine Yl.bind2 newB_yl fun m' n' hm => ?_
        obtain ⟨e1, hm⟩ := hm
        simp only at e1 hm
        subst e1
        refine Yl.pure (⟨.sl nx 0 n (.k n), m', nx + 1, pc, .w [nx]⟩ : O5) (OpOk.new1 hs hm rfl fun a w θ hsl hn => ?_)
        rw [hop] at hsl
        obtain ⟨h1, h2, h3⟩ := cstL_ok (ρ := ρ) (θ := θ) ok.zs
        obtain ⟨os, q1, q2, q3, q4⟩ := hout θ a _ _ hsl (fun p hp => List.mem_map.2 ⟨p, hp, rfl⟩) (repC_den h1 n) fun v hv => h2 v (repV_mem hv)
        have hb := holds_new (ρ := ρ) (w0 := w) (ty := e) (rest := []) (ex := true) hn q2 q4 fun _ => rfl
        rw [List.append_nil] at hb
        refine ⟨.slice (some ⟨w.heap.size, 0, none⟩) n n, w.alloc (.cells os.toArray e), w.heap.size, _, ?_, Ext.alloc _ _ _, Nat.le_refl _, hb, by simp [den, updT, Cap.den]⟩
        have hzl : ok.z.cells.size = y.sz := by rw [ok.zl, ok.sz]
        have e2 : (repV ok.z.cells.toList n).toArray = (Array.range (n * ok.i.size)).map (ok.z.cells[· % ok.z.cells.size]!) := by
          apply Array.ext'
          rw [← ok.zl, repV_range]
        rw [e2] at q1
        by_cases h0 : n = 0
        · subst h0
          have : (Array.range (0 * ok.i.size)).map (ok.z.cells[· % ok.z.cells.size]!) = #[] := by simp [Array.range_zero']
          rw [this] at q1
          simp only [execOp, ho, Instr.buildSlice, Sem.run_bind, run_underlying hd, Result.andThen_ok]
          simp [sizeOf, typeInfo, ok.hi, newRow, Array.range_zero', parts_eq, ← ok.sz, q1]
        · have hpos : ¬ n * ok.i.size = 0 := by
            rw [← ok.sz]; exact Nat.mul_ne_zero h0 (by omega)
          have hsm : ¬ n * ok.i.size > 2 ^ 24 := by rw [← ok.sz]; have : n * y.sz ≤ 16777216 := hc.2; omega
          have := run_buildSlice (P := P) w t e n (parts.map fun (i, x) => (i, a.eval x)) os.toArray ok.i ok.z hd ok.hi ok.hz hsm hpos (by rw [parts_eq, ← ok.sz]; rw [← ok.sz] at q1; exact q1)
          simp only [execOp, ho, Sem.run_bind, this, Result.andThen_ok]
          rfl
      · exact Yl.no
    · exact Yl.no
  · exact Yl.no
theorem opMakeSlice_yl {t : Nat} {x y : Operand} (hs : Sat ρ pc) (ho : o.op = .makeSlice t x y) : Yl (fun K => opMakeSlice P s m nx pc t x y fun v m nx pc ft => K ⟨v, m, nx, pc, ft⟩) (OpOk P ρ o s m nx) := by
  have hop : o.op.operands.toList = [x, y] := by simp [ho, Op.operands]
  unfold opMakeSlice
  split
  · rename_i e hk
    obtain ⟨d, hd, hk'⟩ := kindT_ok hk (by simp)
    rw [tk_slice hk'] at hd
    split
    · rename_i ye hy
      obtain ⟨ok⟩ := mkTy_ok hy
      refine Yl.bind (evO_yl (ρ := ρ)) fun v hv => Yl.bind (evO_yl (ρ := ρ)) fun u hu => ?_
      split
      · rename_i kl l kc c
        split
        · rename_i hc
          simp only [Bool.and_eq_true, Nat.ble_eq] at hc
          refine Yl.bind2 newB_yl fun m' n' hm => ?_
          obtain ⟨e1, hm⟩ := hm
          simp only at e1 hm
          subst e1
          refine Yl.pure (⟨.sl nx 0 l (.k c), m', nx + 1, pc, .w [nx]⟩ : O5) (OpOk.new1 hs hm rfl fun a w θ hsl hn => ?_)
          rw [hop] at hsl
          have hx : a.eval x = .int kl l := (Option.some.inj (hsl.ev (by simp) hv)).symm
          have hy : a.eval y = .int kc c := (Option.some.inj (hsl.ev (by simp) hu)).symm
          obtain ⟨h1, h2, h3⟩ := cstL_ok (ρ := ρ) (θ := θ) ok.zs
          have hb := holds_new (ρ := ρ) (w0 := w) (ty := e) (rest := []) (ex := true) hn (repC_den h1 c) (fun v hv => h2 v (repV_mem hv)) fun _ => rfl
          rw [List.append_nil] at hb
          have e2 : (repV ok.z.cells.toList c).toArray = madeCells ok.z.cells (c * ok.i.size) := by
            apply Array.ext'
            show _ = ((Array.range (c * ok.i.size)).map (ok.z.cells[· % ok.z.cells.size]!)).toList
            rw [← ok.zl, repV_range]
          rw [e2] at hb
          refine ⟨.slice (some ⟨w.heap.size, 0, none⟩) l c, w.alloc (.cells (madeCells ok.z.cells (c * ok.i.size)) e), w.heap.size, _, ?_, Ext.alloc _ _ _, Nat.le_refl _, hb, by simp [den, updT, Cap.den]⟩
          have hbig : (ye.by' + 1) * c ≤ 16777216 := hc.2
          have hb1 : ye.by' * c ≤ 16777216 := Nat.le_trans (Nat.mul_le_mul_right _ (Nat.le_succ _)) hbig
          have hb2 : c ≤ 16777216 := Nat.le_trans (by rw [Nat.add_mul]; omega) hbig
          have hb3 : (ok.i.bytes : Int) * (c : Int) ≤ 281474976710656 := by
            rw [← ok.by']
            have : ((ye.by' * c : Nat) : Int) ≤ 281474976710656 := by omega
            simpa using this
          have := run_make (P := P) w t e ok.i ok.z hd ok.hi ok.hz kl kc l c (by omega) (by have := hc.1.1; omega) hb3 (by omega)
          simp only [Int.toNat_natCast] at this
          simp only [execOp, ho, hx, hy, Sem.run_bind, this, Result.andThen_ok]
          rfl
        · exact Yl.no
      · exact Yl.no
    · exact Yl.no
  · exact Yl.no
end
end X
end Go.Proofs.YtebfahobllghnaaGreatDoor
