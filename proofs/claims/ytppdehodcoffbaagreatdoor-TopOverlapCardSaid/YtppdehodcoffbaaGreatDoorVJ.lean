/-
  Binary operations, and others that only compute. Over any program.
-/
import Derived.Test.YtppdehodcoffbaaGreatDoorVI
set_option linter.unusedSimpArgs false
set_option linter.unusedVariables false
namespace Go.Proofs.YtppdehodcoffbaaGreatDoor
namespace X
open Go.RowKit B

theorem bstr_inj {l m : List UInt8} (h : bstr l = bstr m) : l = m := by
  have := congrArg (fun b => b.data.toList) h
  simpa [bstr] using this
theorem ltStr_ok {ρ : Rho} : ∀ {a b : Str}, knownS a = true → knownS b = true → ltStr a b = Op.bytesLess (denS ρ a) (denS ρ b)
  | a, [], _, _ => by cases a <;> simp [ltStr, denS_nil, Op.bytesLess]
  | [], .c y :: m, _, _ => by simp [ltStr, denS_cons, Pc.den, denS_nil, Op.bytesLess]
  | .c x :: l, .c y :: m, ha, hb => by
    simp only [knownS] at ha hb
    split at ha
    · rename_i h1
      split at hb
      · rename_i h2
        have l1 := Nat.le_of_ble_eq_true h1
        have l2 := Nat.le_of_ble_eq_true h2
        rw [denS_cons, denS_cons]
        simp only [Pc.den, List.cons_append, List.nil_append, Op.bytesLess, ltStr]
        have e1 : (UInt8.ofNat x < UInt8.ofNat y) ↔ x < y := by
          rw [UInt8.lt_iff_toNat_lt]; simp; omega
        have e2 : (UInt8.ofNat x = UInt8.ofNat y) ↔ x = y := by
          constructor
          · intro h
            have := congrArg UInt8.toNat h
            simp at this; omega
          · rintro rfl; rfl
        rw [← ltStr_ok ha hb]
        split
        · rename_i h
          have : x < y := by simpa [Nat.blt_eq] using h
          simp [e1, this]
        · rename_i h
          have hxy : ¬ x < y := fun h' => by
            have h4 : Nat.blt x y = true := by simpa [Nat.blt_eq] using h'
            rw [h4] at h; cases h
          split
          · rename_i h3
            have := Nat.eq_of_beq_eq_true h3
            subst this
            simp
          · rename_i h3
            have := Nat.ne_of_beq_eq_false h3
            have e3 : (UInt8.ofNat x == UInt8.ofNat y) = false := by simp [e2, this]
            simp [e1, hxy, e3]
      · cases hb
    · cases ha
  | .a i :: l, _, ha, _ => by simp [knownS] at ha
  | _, .a i :: l, _, hb => by simp [knownS] at hb
section
variable {P : Program} {ρ : Rho} {o : Oper} {s : Tr SV} {m : Mem} {nx : Nat} {pc : PC} {a : Act} {w w' : World}
theorem binS_yl {op : BinOp} {u v : Str} (hs : Sat ρ pc) : Yl (binS op u v pc) fun r => ∃ x, (∀ θ, den ρ θ r = some x) ∧ ∀ (P : Program) (w : World) (t : TypeId), (binOp op t (.string (bstr (denS ρ u))) (.string (bstr (denS ρ v)))).run P w = .ok x w := by
  unfold binS
  split
  · refine Yl.map _ (eqS_yl hs) fun r hr => ⟨.bool ((bstr (denS ρ u)).toList == (bstr (denS ρ v)).toList), fun θ => ?_, fun P w t => by simp [binOp, Op.stringOp]⟩
    simp only [den, hr, bstr_toList, Option.some.injEq, Value.bool.injEq]
    rw [Bool.eq_iff_iff]; simp
  · refine Yl.map _ (eqS_yl hs) fun r hr => ⟨.bool (!((bstr (denS ρ u)).toList == (bstr (denS ρ v)).toList)), fun θ => ?_, fun P w t => by simp [binOp, Op.stringOp]⟩
    simp only [den, hr, bstr_toList, Option.some.injEq, Value.bool.injEq]
    rw [Bool.eq_iff_iff]; simp
  · split
    · rename_i h
      have h1 := in64_ok h hs
      rw [add_den, lenS_den, lenS_den] at h1
      refine Yl.map _ appS_yl fun r hr => ⟨.string (bstr (denS ρ u) ++ bstr (denS ρ v)), fun θ => ?_, fun P w t => ?_⟩
      · simp only [den, hr, denS_app, bstr_app]
      · have h2 : ¬ (9223372036854775807 < ((denS ρ u).length : Int) + ((denS ρ v).length : Int)) := by omega
        simp [binOp, Op.stringOp, bstr_size, IntKind.max, IntKind.signed, IntKind.bits, h2]
    · exact Yl.no
  · split
    · rename_i h
      simp only [Bool.and_eq_true] at h
      exact Yl.pure _ ⟨.bool (Op.bytesLess (denS ρ u) (denS ρ v)), fun θ => by simp only [den, ltStr_ok (ρ := ρ) h.1 h.2], fun P w t => by simp [binOp, Op.stringOp, bstr_toList]⟩
    · exact Yl.no
  · split
    · rename_i h
      simp only [Bool.and_eq_true] at h
      have tot : ∀ (l m : List UInt8), (!(Op.bytesLess l m || l == m)) = Op.bytesLess m l := by
        intro l
        induction l with
        | nil => intro m; cases m <;> simp [Op.bytesLess]
        | cons x l ih =>
          intro m
          cases m with
          | nil => simp [Op.bytesLess]
          | cons y m =>
            have := ih m
            simp only [Op.bytesLess, List.cons_beq_cons]
            rcases Nat.lt_trichotomy x.toNat y.toNat with h | h | h
            · have h1 : x < y := UInt8.lt_iff_toNat_lt.2 h
              have h2 : ¬ y < x := fun q => by have := UInt8.lt_iff_toNat_lt.1 q; omega
              have h3 : (y == x) = false := by simp; intro e; rw [e] at h; omega
              simp [h1, h2, h3]
            · have e : x = y := UInt8.toNat_inj.1 h
              subst e
              simpa using this
            · have h1 : y < x := UInt8.lt_iff_toNat_lt.2 h
              have h2 : ¬ x < y := fun q => by have := UInt8.lt_iff_toNat_lt.1 q; omega
              have h3 : (x == y) = false := by simp; intro e; rw [e] at h; omega
              simp [h1, h2, h3]
      refine Yl.pure _ ⟨.bool (Op.bytesLess (denS ρ v) (denS ρ u)), fun θ => by simp only [den, ltStr_ok (ρ := ρ) h.2 h.1], fun P w t => ?_⟩
      rw [← tot]
      simp [binOp, Op.stringOp, bstr_toList]
    · exact Yl.no
  · exact Yl.no
theorem eqNeq_yl {op : BinOp} {b : Bool} : Yl (eqNeq op b) fun v => (op = .eql ∧ v = .b b) ∨ (op = .neq ∧ v = .b (!b)) := by
  unfold eqNeq
  split
  · exact Yl.pure _ (.inl ⟨rfl, rfl⟩)
  · exact Yl.pure _ (.inr ⟨rfl, rfl⟩)
  · exact Yl.no
theorem eqOne_yl {k : TK} {x y : SV} (hs : Sat ρ pc) : Yl (fun K => eqOne k pc x y fun r pc => K (r, pc)) fun r => Sat ρ r.2 ∧ ∀ (P : Program) (t : Nat), kindT P t = k → ∀ (θ : Th) (u v : Value) (d : Nat) (w : World), den ρ θ x = some u → den ρ θ y = some v → (Op.equalIn (d + 1) t u v).run P w = .ok r.1 w ∧ ∀ w, (Go.isAgg t).run P w = .ok false w := by
  have agg : ∀ {P : Program} {t : Nat} {d : TypeDesc}, P.underlying t = some d → isAggD d = false → ∀ w, (Go.isAgg t).run P w = .ok false w := fun {P t d} hd h w => by
    unfold Go.isAgg; rw [Sem.run_bind, run_underlying hd, Result.andThen_ok]
    unfold isAggD at h; split at h <;> simp_all
  have int : ∀ {P : Program} {t : Nat} {j : IntKind} {i : IntKind} {p q : Int} (d : Nat) (w : World), kindT P t = .int j → (Op.equalIn (d + 1) t (.int i p) (.int i q)).run P w = .ok (p == q) w ∧ ∀ w, (Go.isAgg t).run P w = .ok false w := fun {P t j i p q} d w hk => by
    obtain ⟨dd, h1, h2⟩ := kindT_ok hk (by simp)
    rw [tk_int h2] at h1
    exact ⟨run_equalIn_int w d t i j p q h1, agg h1 rfl⟩
  -- two numbers, both ways
  have two : ∀ {p q : Lin} {pc : PC}, Sat ρ pc → Yl (fun K => dec2 pc (p.sub q) fun b pc => match b with | true => dec2 pc (q.sub p) fun b pc => K (b, pc) | false => K (false, pc)) fun r : Bool × PC => Sat ρ r.2 ∧ r.1 = (p.den ρ == q.den ρ) := by
    intro p q pc hs
    refine Yl.bind2 (dec2_yl hs) fun b pc' hr => ?_
    simp only at hr
    rw [sub_den] at hr
    have h1 := hr.1
    split
    · refine Yl.mono (dec2_yl hr.2) fun r hr2 => ⟨hr2.2, ?_⟩
      rw [hr2.1, sub_den]
      rw [Bool.eq_iff_iff]; simp at h1 ⊢; omega
    · refine Yl.pure (false, pc') ⟨hr.2, ?_⟩
      rw [Bool.eq_iff_iff]; simp at h1 ⊢; omega
  unfold eqOne
  split
  · rename_i k' p j q i
    split
    · rename_i h
      have := ikEq_iff.1 h
      subst this
      refine Yl.pure (_, _) ⟨hs, fun P t hk θ u v d w e1 e2 => ?_⟩
      cases e1; cases e2
      have := int (p := p) (q := q) (i := k') d w hk
      refine ⟨?_, this.2⟩
      rw [this.1, eqI_eq]; rfl
    · exact Yl.no
  · rename_i b c
    refine Yl.pure (_, _) ⟨hs, fun P t hk θ u v d w e1 e2 => ?_⟩
    cases e1; cases e2
    obtain ⟨dd, h1, h2⟩ := kindT_ok hk (by simp)
    rw [tk_bool h2] at h1
    exact ⟨run_equalIn_bool w d t _ _ h1, agg h1 rfl⟩
  · rename_i l m
    refine Yl.map (fun b => (b, pc)) (eqS_yl hs) fun r hr => ⟨hs, fun P t hk θ u v d w e1 e2 => ?_⟩
    cases e1; cases e2
    obtain ⟨dd, h1, h2⟩ := kindT_ok hk (by simp)
    rw [tk_str h2] at h1
    refine ⟨?_, agg h1 rfl⟩
    rw [run_equalIn_string w d t _ _ h1, hr]
    congr 1
    rw [Bool.eq_iff_iff]
    simp [bstr_toList]
  · rename_i k' p j q i
    split
    · rename_i h
      have := ikEq_iff.1 h
      subst this
      refine Yl.mono (two hs) fun r hr => ⟨hr.1, fun P t hk θ u v d w e1 e2 => ?_⟩
      cases e1; cases e2
      rw [hr.2]; exact int d w hk
    · exact Yl.no
  · rename_i k' p j q i
    split
    · rename_i h
      have := ikEq_iff.1 h
      subst this
      refine Yl.mono (two hs) fun r hr => ⟨hr.1, fun P t hk θ u v d w e1 e2 => ?_⟩
      cases e1; cases e2
      rw [hr.2, const_den]; exact int d w hk
    · exact Yl.no
  · rename_i k' p j q i
    split
    · rename_i h
      have := ikEq_iff.1 h
      subst this
      refine Yl.mono (two hs) fun r hr => ⟨hr.1, fun P t hk θ u v d w e1 e2 => ?_⟩
      cases e1; cases e2
      rw [hr.2, const_den]; exact int d w hk
    · exact Yl.no
  · exact Yl.no
theorem run_part {t : TypeId} {cs : Array Value} {i : Nat} {u : Value} (hz : ∀ w, (Go.isAgg t).run P w = .ok false w) (hc : cs[i]? = some u) : (part t cs i).run P w = .ok u w := by
  simp [part, hz, hc]
theorem eqCells_yl : ∀ {F : List Field} {i : Nat} {l l' : List SV} {pc : PC}, Sat ρ pc → fieldsOk i F = true → Yl (fun K => eqCells P pc (F.map fun f => (f.offset, f.type)) l l' fun r pc => K (r, pc)) fun r => Sat ρ r.2 ∧ ∀ (θ : Th) (pre pre' xs ys : List Value) (d : Nat) (w : World), pre.length = i → pre'.length = i → dens ρ θ l = some xs → dens ρ θ l' = some ys →
      (Op.eqFields (d + 1) (pre ++ xs).toArray (pre' ++ ys).toArray F).run P w = .ok r.1 w
  | [], i, [], [], pc, hs, hf => Yl.pure (true, pc) ⟨hs, fun θ pre pre' xs ys d w _ _ _ _ => by simp [Op.eqFields]⟩
  | f :: F, i, a :: l, b :: l', pc, hs, hf => by
    simp only [fieldsOk, Bool.and_eq_true, Nat.beq_eq, bne_iff_ne, ne_eq] at hf
    obtain ⟨⟨hn, ho⟩, hF⟩ := hf
    have eqn : (fun K : Bool × PC → Bool => eqCells P pc ((f :: F).map fun f => (f.offset, f.type)) (a :: l) (b :: l') fun r pc => K (r, pc)) = fun K => eqOne (kindT P f.type) pc a b fun r pc => match r with
      | true => eqCells P pc (F.map fun f => (f.offset, f.type)) l l' fun r pc => K (r, pc)
      | false => K (false, pc) := rfl
    rw [eqn]
    refine Yl.bind2 (eqOne_yl hs) fun r pc' hr => ?_
    obtain ⟨hs', h1⟩ := hr
    simp only at h1
    -- one field, then the others
    have key : ∀ (θ : Th) (pre pre' xs ys : List Value) (d : Nat) (w : World), pre.length = i → pre'.length = i → dens ρ θ (a :: l) = some xs → dens ρ θ (b :: l') = some ys →
        ∃ u v xs' ys', xs = u :: xs' ∧ ys = v :: ys' ∧ dens ρ θ l = some xs' ∧ dens ρ θ l' = some ys' ∧ (Op.eqFields (d + 1) (pre ++ xs).toArray (pre' ++ ys).toArray (f :: F)).run P w = if r = true then (Op.eqFields (d + 1) (pre ++ xs).toArray (pre' ++ ys).toArray F).run P w else .ok false w := by
      intro θ pre pre' xs ys d w p1 p2 e1 e2
      simp only [dens, Option.bind_eq_some_iff, Option.map_eq_some_iff] at e1 e2
      obtain ⟨u, g1, xs', g2, rfl⟩ := e1
      obtain ⟨v, g3, ys', g4, rfl⟩ := e2
      refine ⟨u, v, xs', ys', rfl, rfl, g2, g4, ?_⟩
      obtain ⟨q1, q2⟩ := h1 P f.type rfl θ u v d w g1 g3
      have hv : (pre ++ u :: xs').toArray[i]? = some u := by simp [p1.symm]
      have hu : (pre' ++ v :: ys').toArray[i]? = some v := by simp [p2.symm]
      simp only [Op.eqFields, if_pos hn, ne_eq, hn, not_false_eq_true, if_true, ho]
      simp only [Sem.run_bind, run_part q2 hv, run_part q2 hu, Result.andThen_ok, q1]
      cases r <;> simp
    split
    · have ih := eqCells_yl (i := i + 1) (l := l) (l' := l') (pc := pc') hs' hF
      refine Yl.mono ih fun r hr => ⟨hr.1, fun θ pre pre' xs ys d w p1 p2 e1 e2 => ?_⟩
      obtain ⟨u, v, xs', ys', rfl, rfl, g1, g2, g3⟩ := key θ pre pre' xs ys d w p1 p2 e1 e2
      rw [g3, if_pos rfl]
      have := hr.2 θ (pre ++ [u]) (pre' ++ [v]) xs' ys' d w (by simp [p1]) (by simp [p2]) g1 g2
      simpa using this
    · refine Yl.pure (false, pc') ⟨hs', fun θ pre pre' xs ys d w p1 p2 e1 e2 => ?_⟩
      obtain ⟨u, v, xs', ys', rfl, rfl, g1, g2, g3⟩ := key θ pre pre' xs ys d w p1 p2 e1 e2
      rw [g3, if_neg (by simp)]
  | [], i, [], _ :: _, pc, hs, hf => Yl.no
  | [], i, _ :: _, l', pc, hs, hf => Yl.no
  | f :: F, i, [], l', pc, hs, hf => Yl.no
  | f :: F, i, _ :: _, [], pc, hs, hf => Yl.no
end
end X
end Go.Proofs.YtppdehodcoffbaaGreatDoor
