/-
  Operations that only compute, each. Over any program.
-/
import Derived.Test.YtppdehodcoffbaaGreatDoorVJ
set_option linter.unusedSimpArgs false
set_option linter.unusedVariables false
namespace Go.Proofs.YtppdehodcoffbaaGreatDoor
namespace X
open Go.RowKit B

theorem SlOk.ev {ρ : Rho} {s : Tr SV} {θ : Th} {a : Act} {xs : List Operand} {x : Operand} {v : SV} (h : SlOk ρ s θ a xs) (hx : x ∈ xs) (hv : EvOk ρ s x v) : den ρ θ v = some (a.eval x) :=
  hv θ a fun k hk sv hsv => h k (by simp only [rdOs, List.mem_flatMap]; exact ⟨x, hx, hk⟩) sv hsv
theorem SlOk.evs {ρ : Rho} {s : Tr SV} {θ : Th} {a : Act} {xs ys : List Operand} {vs : List SV} (h : SlOk ρ s θ a xs) (hx : ∀ x ∈ ys, x ∈ xs) (hv : EvsOk ρ s ys vs) : dens ρ θ vs = some (ys.map a.eval) :=
  hv θ a fun k hk sv hsv => h k (by
    simp only [rdOs, List.mem_flatMap] at hk ⊢
    obtain ⟨x, h1, h2⟩ := hk
    exact ⟨x, hx x h1, h2⟩) sv hsv
theorem eq_both {P : Program} {t : Nat} {u v : Value} {r : Bool} {w : World} (h : ∀ d, (Op.equalIn (d + 1) t u v).run P w = .ok r w) (hb : ∀ t, (binOp .eql t u v) = (do pure (.bool (← Op.equal t u v))) ∧ (binOp .neq t u v) = (do pure (.bool (!(← Op.equal t u v))))) :
    (binOp .eql t u v).run P w = .ok (.bool r) w ∧ (binOp .neq t u v).run P w = .ok (.bool (!r)) w := by
  rw [(hb t).1, (hb t).2]
  have := h 9999
  simp [Op.equal, Op.maxDepth, this]
theorem nil_eq {P : Program} {ρ : Rho} {θ : Th} {t : Nat} {k : TK} {a b : SV} {u v : Value} {r : Bool} {w : World} (hk : kindT P t = k) (h1 : nilKind k a = true) (h2 : nilKind k b = true) (h3 : isNil b = some true) (h4 : isNil a = some r) (hu : den ρ θ a = some u) (hv : den ρ θ b = some v) :
    u ≠ .nilIface ∧ (∀ cs, u ≠ .agg cs) ∧ (binOp .eql t u v).run P w = .ok (.bool r) w ∧ (binOp .neq t u v).run P w = .ok (.bool (!r)) w := by
  have mp : ∀ {α β : Type} {o : Option α} {f : α → β} {x : β}, o.map f = some x → ∃ y, x = f y := fun h => by
    obtain ⟨y, _, h⟩ := Option.map_eq_some_iff.1 h; exact ⟨y, h.symm⟩
  cases k with
  | ptr e =>
    obtain ⟨d, hd, hk'⟩ := kindT_ok hk (by simp)
    rw [tk_ptr hk'] at hd
    have hb : v = .pointer none := by cases b <;> simp [nilKind] at h2 <;> simp [isNil] at h3; cases hv; rfl
    subst hb
    have ha : ∃ p, u = .pointer p ∧ p.isNone = r := by
      cases a <;> simp [nilKind] at h1 <;> simp [isNil] at h4 <;> subst h4
      · obtain ⟨y, rfl⟩ := mp hu; exact ⟨_, rfl, rfl⟩
      · cases hu; exact ⟨_, rfl, rfl⟩
      · cases hu; exact ⟨_, rfl, rfl⟩
    obtain ⟨p, rfl, hp⟩ := ha
    refine ⟨by simp, by simp, eq_both (fun d => ?_) fun t => ⟨by rfl, by rfl⟩⟩
    cases p <;> simp at hp <;> subst hp <;> simp [Op.equalIn, run_underlying hd]
  | slice e =>
    obtain ⟨d, hd, hk'⟩ := kindT_ok hk (by simp)
    rw [tk_slice hk'] at hd
    have hb : v = .slice none 0 0 := by cases b <;> simp [nilKind] at h2 <;> simp [isNil] at h3; cases hv; rfl
    subst hb
    have ha : ∃ p i j, u = .slice p i j ∧ p.isNone = r := by
      cases a <;> simp [nilKind] at h1 <;> simp [isNil] at h4 <;> subst h4
      · obtain ⟨y, rfl⟩ := mp hu; exact ⟨_, _, _, rfl, rfl⟩
      · obtain ⟨y, rfl⟩ := mp hu; exact ⟨_, _, _, rfl, rfl⟩
      · cases hu; exact ⟨_, _, _, rfl, rfl⟩
    obtain ⟨p, i, j, rfl, hp⟩ := ha
    refine ⟨by simp, by simp, eq_both (fun d => ?_) fun t => ⟨by rfl, by rfl⟩⟩
    cases p <;> simp at hp <;> subst hp <;> simp [Op.equalIn, run_underlying hd]
  | map e e' =>
    obtain ⟨d, hd, hk'⟩ := kindT_ok hk (by simp)
    rw [tk_map hk'] at hd
    have hb : v = .map none := by cases b <;> simp [nilKind] at h2 <;> simp [isNil] at h3; cases hv; rfl
    subst hb
    have ha : ∃ p, u = .map p ∧ p.isNone = r := by
      cases a <;> simp [nilKind] at h1 <;> simp [isNil] at h4 <;> subst h4
      · cases hu; exact ⟨_, rfl, rfl⟩
      · obtain ⟨y, rfl⟩ := mp hu; exact ⟨_, rfl, rfl⟩
    obtain ⟨p, rfl, hp⟩ := ha
    refine ⟨by simp, by simp, eq_both (fun d => ?_) fun t => ⟨by rfl, by rfl⟩⟩
    cases p <;> simp at hp <;> subst hp <;> simp [Op.equalIn, run_underlying hd]
  | fn =>
    obtain ⟨d, hd, hk'⟩ := kindT_ok hk (by simp)
    obtain ⟨x, y, z, hd'⟩ := tk_fn hk'
    rw [hd'] at hd
    have hb : v = .nilFunc := by cases b <;> simp [nilKind] at h2 <;> simp [isNil] at h3; cases hv; rfl
    subst hb
    cases a <;> simp [nilKind] at h1 <;> simp [isNil] at h4 <;> subst h4
    · simp only [den, Option.bind_eq_some_iff, Option.map_eq_some_iff] at hu
      obtain ⟨a1, _, b1, _, rfl⟩ := hu
      exact ⟨by simp, by simp, eq_both (fun d => by simp [Op.equalIn, run_underlying hd]) fun t => ⟨by rfl, by rfl⟩⟩
    · cases hu
      exact ⟨by simp, by simp, eq_both (fun d => by simp [Op.equalIn, run_underlying hd]) fun t => ⟨by rfl, by rfl⟩⟩
  | _ => cases a <;> simp [nilKind] at h1

section
variable {P : Program} {ρ : Rho} {o : Oper} {s : Tr SV} {m : Mem} {nx : Nat} {pc : PC} {a : Act} {w w' : World}
theorem pure2 {α : Type} {op : BinOp} {t t' : TypeId} {x y : Operand} {va vb : SV} {F : (α → Bool) → Bool} {g : α → SV} {Φ : α → Prop} (hs : Sat ρ pc) (ho : o.op = .binOp op t x y t') (hva : EvOk ρ s x va) (hvb : EvOk ρ s y vb) (h : Yl F Φ)
    (hr : ∀ r, Φ r → ∀ (θ : Th) (w : World) (u v : Value), den ρ θ va = some u → den ρ θ vb = some v → ∃ z, den ρ θ (g r) = some z ∧ (eqGuard op t x y u v).run P w = .ok () w ∧ (binOp op t u v).run P w = .ok z w) :
    Yl (fun K => F fun r => K ⟨g r, m, nx, pc, .n⟩) (OpOk P ρ o s m nx) := by
  refine Yl.map (fun r => (⟨g r, m, nx, pc, .n⟩ : O5)) h fun r hr' => OpOk.pure hs fun a w θ hsl => ?_
  have hop : o.op.operands.toList = [x, y] := by simp [ho, Op.operands]
  rw [hop] at hsl
  obtain ⟨z, h1, h2, h3⟩ := hr r hr' θ w _ _ (hsl.ev (by simp) hva) (hsl.ev (by simp) hvb)
  exact ⟨z, r_bin ho rfl rfl h2 h3, h1⟩
theorem opBin_yl {op : BinOp} {t t' : TypeId} {x y : Operand} (hs : Sat ρ pc) (ho : o.op = .binOp op t x y t') : Yl (fun K => opBin P s m nx pc op t x y fun v m nx pc ft => K ⟨v, m, nx, pc, ft⟩) (OpOk P ρ o s m nx) := by
  have hop : o.op.operands.toList = [x, y] := by simp [ho, Op.operands]
  -- from what two values come to, with conditions turned
  have fin : ∀ {va vb v : SV} {pc' : PC}, Sat ρ pc' → EvOk ρ s x va → EvOk ρ s y vb → (∀ (θ : Th) (w : World) (u u' : Value), den ρ θ va = some u → den ρ θ vb = some u' → ∃ z, den ρ θ v = some z ∧ (eqGuard op t x y u u').run P w = .ok () w ∧ (binOp op t u u').run P w = .ok z w) → OpOk P ρ o s m nx ⟨v, m, nx, pc', .n⟩ := by
    intro va vb v pc' hs' hva hvb h
    refine OpOk.pure hs' fun a w θ hsl => ?_
    rw [hop] at hsl
    obtain ⟨z, h1, h2, h3⟩ := h θ w _ _ (hsl.ev (by simp) hva) (hsl.ev (by simp) hvb)
    exact ⟨z, r_bin ho rfl rfl h2 h3, h1⟩
  have gi : ∀ {w : World} {k j : IntKind} {p q : Int}, (eqGuard op t x y (.int k p) (.int j q)).run P w = .ok () w := guard_ok (by simp) (by simp)
  unfold opBin
  refine Yl.bind (evO_yl (ρ := ρ)) fun va hva => Yl.bind (evO_yl (ρ := ρ)) fun vb hvb => ?_
  split
  · rename_i k p j q
    split
    · refine Yl.map (fun v => (⟨v, m, nx, pc, .n⟩ : O5)) (shI_yl (j := j)) fun v hv => fin hs hva hvb fun θ w u u' e1 e2 => ?_
      cases e1; cases e2
      obtain ⟨z, h1, h2⟩ := hv
      exact ⟨z, h1 ρ θ, gi, h2 P w t⟩
    · refine Yl.map (fun v => (⟨v, m, nx, pc, .n⟩ : O5)) (shI_yl (j := j)) fun v hv => fin hs hva hvb fun θ w u u' e1 e2 => ?_
      cases e1; cases e2
      obtain ⟨z, h1, h2⟩ := hv
      exact ⟨z, h1 ρ θ, gi, h2 P w t⟩
    · rename_i n1 n2
      split
      · rename_i h
        have := ikEq_iff.1 h
        subst this
        refine Yl.map (fun v => (⟨v, m, nx, pc, .n⟩ : O5)) (binI_yl ⟨fun e => n1 e, fun e => n2 e⟩) fun v hv => fin hs hva hvb fun θ w u u' e1 e2 => ?_
        cases e1; cases e2
        obtain ⟨z, h1, h2⟩ := hv
        exact ⟨z, h1 ρ θ, gi, h2 P w t⟩
      · exact Yl.no
  · rename_i k p j q
    split
    · rename_i h
      have := ikEq_iff.1 h
      subst this
      refine Yl.bind2 (linX_yl hs) fun v pc' hv => Yl.pure (⟨v, m, nx, pc', .n⟩ : O5) (fin hv.1 hva hvb fun θ w u u' e1 e2 => ?_)
      cases e1; cases e2
      obtain ⟨_, z, h1, h2⟩ := hv
      exact ⟨z, h1 θ, gi, h2 P w t⟩
    · exact Yl.no
  · rename_i k p j q
    split
    · rename_i h
      have := ikEq_iff.1 h
      subst this
      refine Yl.bind2 (linX_yl hs) fun v pc' hv => Yl.pure (⟨v, m, nx, pc', .n⟩ : O5) (fin hv.1 hva hvb fun θ w u u' e1 e2 => ?_)
      cases e1; cases e2
      obtain ⟨_, z, h1, h2⟩ := hv
      rw [const_den] at h2
      exact ⟨z, h1 θ, gi, h2 P w t⟩
    · exact Yl.no
  · rename_i k p j q
    split
    · rename_i h
      have := ikEq_iff.1 h
      subst this
      refine Yl.bind2 (linX_yl hs) fun v pc' hv => Yl.pure (⟨v, m, nx, pc', .n⟩ : O5) (fin hv.1 hva hvb fun θ w u u' e1 e2 => ?_)
      cases e1; cases e2
      obtain ⟨_, z, h1, h2⟩ := hv
      rw [const_den] at h2
      exact ⟨z, h1 θ, gi, h2 P w t⟩
    · exact Yl.no
  · rename_i l l'
    refine Yl.map (fun v => (⟨v, m, nx, pc, .n⟩ : O5)) (binS_yl hs) fun v hv => fin hs hva hvb fun θ w u u' e1 e2 => ?_
    cases e1; cases e2
    obtain ⟨z, h1, h2⟩ := hv
    exact ⟨z, h1 θ, guard_ok (by simp) (by simp), h2 P w t⟩
  · rename_i b c
    split
    · rename_i hk
      obtain ⟨d, hd, hk'⟩ := kindT_ok hk (by simp)
      rw [tk_bool hk'] at hd
      refine Yl.map (fun v => (⟨v, m, nx, pc, .n⟩ : O5)) eqNeq_yl fun v hv => fin hs hva hvb fun θ w u u' e1 e2 => ?_
      cases e1; cases e2
      have h := eq_bool (P := P) (w := w) (b := b) (c := c) hd 9999
      rcases hv with ⟨rfl, rfl⟩ | ⟨rfl, rfl⟩
      · exact ⟨_, rfl, guard_ok (by simp) (by simp), by simp [binOp, Op.equal, Op.maxDepth, h]⟩
      · exact ⟨_, rfl, guard_ok (by simp) (by simp), by simp [binOp, Op.equal, Op.maxDepth, h]⟩
    · exact Yl.no
  · rename_i l l'
    split
    · rename_i hc
      split
      · rename_i fs hk
        obtain ⟨d, hd, hk'⟩ := kindT_ok hk (by simp)
        obtain ⟨F, rfl, hfs⟩ := tk_struct hk'
        unfold chkEq at hc
        rw [hd] at hc
        simp only [Bool.and_eq_true, Bool.not_eq_true'] at hc
        obtain ⟨⟨c1, c2⟩, c3⟩ := hc
        have hFo : P.fieldsOf t = F := by simp [Program.fieldsOf, hd]
        have hF' : P.underlying t = some (.struct (P.fieldsOf t)) := by rw [hFo]; exact hd
        subst hfs
        refine Yl.bind2 (eqCells_yl (i := 0) hs c3) fun r pc' hr => ?_
        refine Yl.map (fun v => (⟨v, m, nx, pc', .n⟩ : O5)) eqNeq_yl fun v hv => fin hr.1 hva hvb fun θ w u u' e1 e2 => ?_
        simp only [den, Option.map_eq_some_iff] at e1 e2
        obtain ⟨xs, g1, rfl⟩ := e1
        obtain ⟨ys, g2, rfl⟩ := e2
        have e3 : (Op.equalIn 10000 t (.agg xs.toArray) (.agg ys.toArray)).run P w = .ok r w := by
          rw [run_equalIn_struct (P := P) w 9999 t _ _ hF' c1, hFo]
          simpa using hr.2 θ [] [] xs ys 9998 w rfl rfl g1 g2
        rcases hv with ⟨rfl, rfl⟩ | ⟨rfl, rfl⟩
        · exact ⟨_, rfl, run_eqGuard_agg w .eql t x y _ _ c2, by rw [run_eql_struct, e3]; rfl⟩
        · exact ⟨_, rfl, run_eqGuard_agg w .neq t x y _ _ c2, by rw [run_neq_struct, e3]; rfl⟩
      · exact Yl.no
    · exact Yl.no
  · rename_i g i h j
    split
    · rename_i e hk
      split
      · rename_i y hy
        obtain ⟨ok⟩ := mkTy_ok hy
        split
        · rename_i hgh
          simp only [Bool.and_eq_true] at hgh
          have e0 := Nat.eq_of_beq_eq_true hgh.1
          subst e0
          have hsz : y.sz ≠ 0 := by have := Nat.le_of_ble_eq_true hgh.2; omega
          obtain ⟨d, hd, hk'⟩ := kindT_ok hk (by simp)
          rw [tk_ptr hk'] at hd
          refine Yl.map (fun v => (⟨v, m, nx, pc, .n⟩ : O5)) eqNeq_yl fun v hv => fin hs hva hvb fun θ w u u' e1 e2 => ?_
          simp only [den, Option.map_eq_some_iff] at e1 e2
          obtain ⟨q, g1, rfl⟩ := e1
          obtain ⟨q', g2, rfl⟩ := e2
          rw [g1] at g2; cases g2
          have h1 : (⟨q.1, i, none⟩ == (⟨q.1, j, none⟩ : Addr)) = Nat.beq i j := by
            rw [Bool.eq_iff_iff]; simp [Nat.beq_eq]
          have h2 : ∀ d, (Op.equalIn (d + 1) t (.pointer (some ⟨q.1, i, none⟩)) (.pointer (some ⟨q.1, j, none⟩))).run P w = .ok (Nat.beq i j) w := fun d => by
            simp [Op.equalIn, run_underlying hd, ok.size, hsz, sameAddr, h1]
          obtain ⟨h3, h4⟩ := eq_both h2 fun t => ⟨by rfl, by rfl⟩
          rcases hv with ⟨rfl, rfl⟩ | ⟨rfl, rfl⟩
          · exact ⟨_, rfl, guard_ok (by simp) (by simp), h3⟩
          · exact ⟨_, rfl, guard_ok (by simp) (by simp), h4⟩
        · exact Yl.no
      · exact Yl.no
    · exact Yl.no
  · split
    · rename_i h3
      split
      · rename_i h12
        simp only [Bool.and_eq_true] at h12
        split
        · rename_i r h4
          refine Yl.map (fun v => (⟨v, m, nx, pc, .n⟩ : O5)) eqNeq_yl fun v hv => fin hs hva hvb fun θ w u u' e1 e2 => ?_
          obtain ⟨g1, g2, g3, g4⟩ := nil_eq (w := w) rfl h12.1 h12.2 h3 h4 e1 e2
          rcases hv with ⟨rfl, rfl⟩ | ⟨rfl, rfl⟩
          · exact ⟨_, rfl, guard_ok g1 g2, g3⟩
          · exact ⟨_, rfl, guard_ok g1 g2, g4⟩
        · exact Yl.no
      · exact Yl.no
    · exact Yl.no
theorem opPick_yl {c x y : Operand} (hs : Sat ρ pc) (ho : o.op = .pick c x y) : Yl (fun K => opPick s m nx pc c x y fun v m nx pc ft => K ⟨v, m, nx, pc, ft⟩) (OpOk P ρ o s m nx) := by
  have hop : o.op.operands.toList = [c, x, y] := by simp [ho, Op.operands]
  unfold opPick
  refine Yl.bind (evO_yl (ρ := ρ)) fun vc hvc => ?_
  split
  · split
    · refine Yl.map (fun v => (⟨v, m, nx, pc, .n⟩ : O5)) (evO_yl (ρ := ρ)) fun v hv => OpOk.pure hs fun a w θ hsl => ?_
      rw [hop] at hsl
      have hc := hsl.ev (by simp) hvc
      exact ⟨_, r_pick ho (b := true) (Option.some.inj hc).symm (fun _ => rfl) (fun h => by cases h), hsl.ev (by simp) hv⟩
    · refine Yl.map (fun v => (⟨v, m, nx, pc, .n⟩ : O5)) (evO_yl (ρ := ρ)) fun v hv => OpOk.pure hs fun a w θ hsl => ?_
      rw [hop] at hsl
      have hc := hsl.ev (by simp) hvc
      exact ⟨_, r_pick ho (b := false) (Option.some.inj hc).symm (fun h => by cases h) (fun _ => rfl), hsl.ev (by simp) hv⟩
  · exact Yl.no
theorem opUn_yl {op : UnOp} {t : TypeId} {x : Operand} (hs : Sat ρ pc) (ho : o.op = .unOp op t x) : Yl (fun K => opUn s m nx pc op x fun v m nx pc ft => K ⟨v, m, nx, pc, ft⟩) (OpOk P ρ o s m nx) := by
  have hop : o.op.operands.toList = [x] := by simp [ho, Op.operands]
  unfold opUn
  refine Yl.bind (evO_yl (ρ := ρ)) fun v hv => ?_
  split
  · refine Yl.pure _ (OpOk.pure hs fun a w θ hsl => ?_)
    rw [hop] at hsl
    have hc := hsl.ev (by simp) hv
    exact ⟨_, r_not ho (Option.some.inj hc).symm, rfl⟩
  · rename_i n
    refine Yl.map (fun v => (⟨v, m, nx, pc, .n⟩ : O5)) wrK_yl fun r hr => OpOk.pure hs fun a w θ hsl => ?_
    rw [hop] at hsl
    have hc := hsl.ev (by simp) hv
    have hx : a.eval x = .int .i64 n := (Option.some.inj hc).symm
    exact ⟨.int .i64 (IntKind.i64.wrap (-n)), by simp [Runs, execOp, ho, hx, Op.unary, Op.intArith], by rw [hr]; rfl⟩
  · exact Yl.no
theorem opExtract_yl {x : Operand} {i : Nat} (hs : Sat ρ pc) (ho : o.op = .extract x i) : Yl (fun K => opExtract s m nx pc x i fun v m nx pc ft => K ⟨v, m, nx, pc, ft⟩) (OpOk P ρ o s m nx) := by
  have hop : o.op.operands.toList = [x] := by simp [ho, Op.operands]
  unfold opExtract
  refine Yl.bind (evO_yl (ρ := ρ)) fun v hv => ?_
  split
  · rename_i l
    refine Yl.map (fun v => (⟨v, m, nx, pc, .n⟩ : O5)) nthC_yl fun u hu => OpOk.pure hs fun a w θ hsl => ?_
    rw [hop] at hsl
    have hc := hsl.ev (by simp) hv
    simp only [den, Option.map_eq_some_iff] at hc
    obtain ⟨vs, g1, g2⟩ := hc
    obtain ⟨u', h1, h2⟩ := dens_get g1 hu
    exact ⟨u', r_extract ho g2.symm (by simpa using h1), h2⟩
  · exact Yl.no
theorem partC_yl {t : Nat} {y : Ty} (ok : TyOk P t y) {cs : List SV} {off : Nat} : Yl (partC y cs off) fun v => ∀ (θ : Th) (vs : List Value), dens ρ θ cs = some vs → ∃ u, den ρ θ v = some u ∧ ∀ w, (part t vs.toArray off).run P w = .ok u w := by
  unfold partC
  split
  · rename_i hag
    refine Yl.map _ segC_yl fun l hl θ vs hvs => ?_
    have hlen := dens_len hvs
    refine ⟨.agg ((vs.drop off).take y.sz).toArray, by simp [den, hl.2, dens_take _ (dens_drop _ hvs)], fun w => ?_⟩
    have e : vs.toArray.extract off (off + y.sz) = ((vs.drop off).take y.sz).toArray := by
      apply Array.ext'
      rw [Array.toList_extract]
      simp [List.extract]
    simp [part, ok.isAgg, hag, ok.size, e]
  · rename_i hag
    refine Yl.mono nthC_yl fun v hv θ vs hvs => ?_
    obtain ⟨u, h1, h2⟩ := dens_get hvs hv
    exact ⟨u, h2, fun w => by simp [part, ok.isAgg, hag, h1]⟩
theorem nthF_get : ∀ {l : List (Nat × Nat)} {i : Nat}, nthF l i = l[i]?
  | [], i => by cases i <;> rfl
  | a :: l, 0 => rfl
  | a :: l, i + 1 => by simp [nthF, nthF_get (l := l)]
theorem fieldT_ok {t f o : Nat} {y : Ty} (h : fieldT P t f = some (o, y)) : ∃ (F : Array Field) (fd : Field), P.underlying t = some (.struct F) ∧ F[f]? = some fd ∧ fd.offset = o ∧ Nonempty (TyOk P fd.type y) := by
  unfold fieldT at h
  split at h
  · rename_i fs hk
    split at h
    · rename_i o' ft hn
      split at h
      · rename_i y' hy
        cases h
        obtain ⟨d, hd, hk'⟩ := kindT_ok hk (by simp)
        obtain ⟨F, rfl, hfs⟩ := tk_struct hk'
        rw [nthF_get, hfs, List.getElem?_map] at hn
        cases hF : F.toList[f]? with
        | none => rw [hF] at hn; cases hn
        | some fd =>
          rw [hF] at hn
          simp at hn
          refine ⟨F, fd, hd, by simpa using hF, hn.1, ?_⟩
          rw [hn.2]; exact mkTy_ok hy
      · cases h
    · cases h
  · cases h
theorem opField_yl {t f : Nat} {x : Operand} (hs : Sat ρ pc) (ho : o.op = .field t x f) : Yl (fun K => opField P s m nx pc t x f fun v m nx pc ft => K ⟨v, m, nx, pc, ft⟩) (OpOk P ρ o s m nx) := by
  have hop : o.op.operands.toList = [x] := by simp [ho, Op.operands]
  unfold opField
  split
  · rename_i off y hf
    obtain ⟨F, fd, h1, h2, h3, ⟨ok⟩⟩ := fieldT_ok hf
    refine Yl.bind (evO_yl (ρ := ρ)) fun v hv => ?_
    split
    · rename_i l
      refine Yl.map (fun v => (⟨v, m, nx, pc, .n⟩ : O5)) (partC_yl (ρ := ρ) ok) fun u hu => OpOk.pure hs fun a w θ hsl => ?_
      rw [hop] at hsl
      have hc := hsl.ev (by simp) hv
      simp only [den, Option.map_eq_some_iff] at hc
      obtain ⟨vs, g1, g2⟩ := hc
      obtain ⟨u', q1, q2⟩ := hu θ vs g1
      refine ⟨u', ?_, q1⟩
      have := q2 w
      rw [← h3] at this
      simp [Runs, execOp, ho, ← g2, Instr.field, run_underlying h1, h2, asAgg, this]
    · exact Yl.no
  · exact Yl.no
theorem opFunc_yl {f : Fn} {fi ca : Array Operand} (hs : Sat ρ pc) (ho : o.op = .makeFunc f fi ca) : Yl (fun K => opFunc s m nx pc f fi.toList ca.toList fun v m nx pc ft => K ⟨v, m, nx, pc, ft⟩) (OpOk P ρ o s m nx) := by
  have hop : o.op.operands.toList = fi.toList ++ ca.toList := by simp [ho, Op.operands]
  unfold opFunc
  split
  · rename_i f
    refine Yl.bind (evL_yl (ρ := ρ)) fun vs hvs => ?_
    refine Yl.map (fun us => (⟨.fn f vs us, m, nx, pc, .n⟩ : O5)) (evL_yl (ρ := ρ)) fun us hus => OpOk.pure hs fun a w θ hsl => ?_
    rw [hop] at hsl
    have h1 := hsl.evs (fun x hx => by simp [hx]) hvs
    have h2 := hsl.evs (fun x hx => by simp [hx]) hus
    refine ⟨.func (.func f) (fi.map a.eval) (ca.map a.eval), by simp [Runs, execOp, ho, Instr.makeFunc], ?_⟩
    simp only [den, h1, h2, Option.bind_some, Option.map_some]
    congr 2 <;> apply Array.ext' <;> simp
  · exact Yl.no
theorem opNil_yl {x : Operand} (hs : Sat ρ pc) (ho : o.op = .nilCheck x) : Yl (fun K => opNil s m nx pc x fun v m nx pc ft => K ⟨v, m, nx, pc, ft⟩) (OpOk P ρ o s m nx) := by
  have hop : o.op.operands.toList = [x] := by simp [ho, Op.operands]
  have mp : ∀ {α β : Type} {o : Option α} {f : α → β} {x : β}, o.map f = some x → ∃ y, x = f y := fun h => by
    obtain ⟨y, _, h⟩ := Option.map_eq_some_iff.1 h; exact ⟨y, h.symm⟩
  unfold opNil
  refine Yl.bind (evO_yl (ρ := ρ)) fun v hv => ?_
  have go : (∀ (θ : Th) (u : Value), den ρ θ v = some u → ∀ (a : Act) (w : World), a.eval x = u → Runs P a o w u) → OpOk P ρ o s m nx ⟨v, m, nx, pc, .n⟩ := fun h => by
    refine OpOk.pure hs fun a w θ hsl => ?_
    rw [hop] at hsl
    have hc := hsl.ev (by simp) hv
    exact ⟨_, h θ _ hc a w rfl, hc⟩
  split
  · refine Yl.pure _ (go fun θ u hu a w hx => ?_)
    obtain ⟨y, rfl⟩ := mp hu
    simp [Runs, execOp, ho, hx]
  · refine Yl.pure _ (go fun θ u hu a w hx => ?_)
    cases hu
    simp [Runs, execOp, ho, hx]
  · refine Yl.pure _ (go fun θ u hu a w hx => ?_)
    simp only [den, Option.bind_eq_some_iff, Option.map_eq_some_iff] at hu
    obtain ⟨a1, _, b1, _, rfl⟩ := hu
    simp [Runs, execOp, ho, hx]
  · refine Yl.pure _ (go fun θ u hu a w hx => ?_)
    obtain ⟨y, rfl⟩ := mp hu
    simp [Runs, execOp, ho, hx]
  · refine Yl.pure _ (go fun θ u hu a w hx => ?_)
    obtain ⟨y, rfl⟩ := mp hu
    simp [Runs, execOp, ho, hx]
  · exact Yl.no
end
end X
end Go.Proofs.YtppdehodcoffbaaGreatDoor
