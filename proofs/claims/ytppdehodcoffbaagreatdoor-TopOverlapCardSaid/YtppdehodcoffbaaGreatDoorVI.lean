/-
  What operations that only compute come to. Over any program.
-/
import Derived.Test.YtppdehodcoffbaaGreatDoorVH
set_option linter.unusedSimpArgs false
set_option linter.unusedVariables false
namespace Go.Proofs.YtppdehodcoffbaaGreatDoor
namespace X
open Go.RowKit B

structure O5 where
  v : SV
  m : Mem
  nx : Nat
  pc : PC
  ft : Ft
def tc (ft : Ft) (t : Nat) : Prop := match ft with
  | .n => False
  | .r g => t = g
  | .w ts => t ∈ ts
  | .c => True
open Classical in
noncomputable def subM (ft : Ft) (m : Mem) : Nat → Option Blk := fun t => if tc ft t then m.get t else none
theorem subM_in {ft : Ft} {m : Mem} {t : Nat} (h : tc ft t) : subM ft m t = m.get t := if_pos h
theorem subM_out {ft : Ft} {m : Mem} {t : Nat} (h : ¬ tc ft t) : subM ft m t = none := if_neg h
theorem subM_some {ft : Ft} {m : Mem} {t : Nat} {b : Blk} (h : subM ft m t = some b) : tc ft t ∧ m.get t = some b := by
  by_cases hc : tc ft t
  · rw [subM_in hc] at h; exact ⟨hc, h⟩
  · rw [subM_out hc] at h; cases h
theorem subM_c {m : Mem} : subM .c m = m.get := funext fun _ => subM_in trivial
/-- what is asked of the slots that an operation reads -/
def SlOk (ρ : Rho) (s : Tr SV) (θ : Th) (a : Act) (xs : List Operand) : Prop := ∀ k ∈ rdOs xs, ∀ sv, s.get k = some sv → den ρ θ sv = some (get a k)
structure OpOk (P : Program) (ρ : Rho) (o : Oper) (s : Tr SV) (m : Mem) (nx : Nat) (r : O5) : Prop where
  pc : Sat ρ r.pc
  le : nx ≤ r.nx
  off : ∀ t, ¬ tc r.ft t → r.m.get t = m.get t
  rd : ∀ g, r.ft = .r g → r.m = m
  new : ∀ t, m.get t = none → r.m.get t ≠ none → nx ≤ t ∧ t < r.nx
  run : ∀ (a : Act) (w : World) (θ : Th), SlOk ρ s θ a o.op.operands.toList → MemOk ρ θ (subM r.ft m) w → (∀ t, nx ≤ t → t < r.nx → θ t = none) →
    o.wp P a w (fun a' w' => ∃ v θ', a' = a.put o.dst v ∧ SP ρ nx r.nx θ (subM r.ft m) w θ' (subM r.ft r.m) w' ∧ den ρ θ' r.v = some v) (fun _ _ _ => False)
section
variable {P : Program} {ρ : Rho} {o : Oper} {s : Tr SV} {m : Mem} {nx : Nat} {pc : PC} {a : Act} {w w' : World}
theorem wp_val {v : Value} {next : Act → World → Prop} {Q : Exit → Act → World → Prop} (h : (execOp a.eval o).run P w = .ok (.value v) w') (k : next (a.put o.dst v) w') : o.wp P a w next Q := by
  unfold Oper.wp; rw [h]; exact k
theorem wp_skip' {next : Act → World → Prop} {Q : Exit → Act → World → Prop} (h : (execOp a.eval o).run P w = .ok .skip w') (k : next (a.put o.dst undef) w') : o.wp P a w next Q := by
  unfold Oper.wp; rw [h]; exact k
theorem OpOk.pure {v : SV} (hs : Sat ρ pc) (h : ∀ (a : Act) (w : World) (θ : Th), SlOk ρ s θ a o.op.operands.toList → ∃ u, Runs P a o w u ∧ den ρ θ v = some u) : OpOk P ρ o s m nx ⟨v, m, nx, pc, .n⟩ where
  pc := hs
  le := Nat.le_refl _
  off := fun _ _ => rfl
  rd := fun _ h => by cases h
  new := fun t h1 h2 => absurd h1 h2
  run := fun a w θ h1 h2 _ => by
    obtain ⟨u, h3, h4⟩ := h a w θ h1
    exact wp_val h3 ⟨u, θ, rfl, SP.refl h2, h4⟩
theorem OpOk.read {v : SV} {g : Nat} (hs : Sat ρ pc) (h : ∀ (a : Act) (w : World) (θ : Th), SlOk ρ s θ a o.op.operands.toList → (∀ b, m.get g = some b → HoldsB ρ θ w g b) → ∃ u, Runs P a o w u ∧ den ρ θ v = some u) : OpOk P ρ o s m nx ⟨v, m, nx, pc, .r g⟩ where
  pc := hs
  le := Nat.le_refl _
  off := fun _ _ => rfl
  rd := fun _ _ => rfl
  new := fun t h1 h2 => absurd h1 h2
  run := fun a w θ h1 h2 _ => by
    obtain ⟨u, h3, h4⟩ := h a w θ h1 fun b hb => h2.holds g b (by rw [subM_in (show tc (.r g) g from rfl)]; exact hb)
    exact wp_val h3 ⟨u, θ, rfl, SP.refl h2, h4⟩
end

/-! ### Numbers -/
theorem fits_wrap {k : IntKind} {n : Int} (h : fits k n = true) : k.wrap n = n := by
  cases n with
  | ofNat a =>
    have e : (Int.ofNat a : Int) = (a : Int) := rfl
    cases k <;> simp only [fits] at h <;> first | cases h | skip
    all_goals have h1 := Nat.le_of_ble_eq_true h
    · exact IntWalk.i64_in _ (by rw [e]; omega)
    · simp [IntKind.wrap, IntKind.signed, IntKind.bits]; omega
    · simp [IntKind.wrap, IntKind.signed, IntKind.bits]; omega
    · simp [IntKind.wrap, IntKind.signed, IntKind.bits]; omega
  | negSucc a =>
    have e : (Int.negSucc a : Int) = -(a : Int) - 1 := by omega
    cases k <;> simp only [fits] at h <;> first | cases h | skip
    have h1 := Nat.le_of_ble_eq_true h
    exact IntWalk.i64_in _ (by rw [e]; omega)
theorem wrK_yl {k : IntKind} {n : Int} : Yl (wrK k n) fun v => v = .i k (k.wrap n) := by
  unfold wrK
  refine Yl.bind frc_yl fun x hx => ?_
  subst hx
  split
  · rename_i h
    exact Yl.pure _ (by rw [fits_wrap h])
  · exact Yl.bind frc_yl fun y hy => Yl.pure _ (by rw [hy])
section
variable {P : Program} {ρ : Rho} {o : Oper} {s : Tr SV} {m : Mem} {nx : Nat} {pc : PC} {a : Act} {w w' : World}
theorem r_bin {op : BinOp} {t t' : TypeId} {x y : Operand} {u v r : Value} (ho : o.op = .binOp op t x y t') (hx : a.eval x = u) (hy : a.eval y = v) (hg : (eqGuard op t x y u v).run P w = .ok () w) (h : (binOp op t u v).run P w = .ok r w) : Runs P a o w r := by
  simp only [Runs, execOp, ho, hx, hy, Sem.run_bind, hg, Result.andThen_ok, h]
  rfl
theorem guard_ok {op : BinOp} {t : TypeId} {x y : Operand} {u v : Value} (h1 : u ≠ .nilIface) (h2 : ∀ cs, u ≠ .agg cs) : (eqGuard op t x y u v).run P w = .ok () w := by
  unfold eqGuard
  cases op <;> (try rfl) <;> (cases u <;> first | rfl | exact absurd rfl h1 | exact absurd rfl (h2 _))
theorem bool_eq {b : Bool} {p : Prop} [Decidable p] (h : b = true ↔ p) : b = decide p := by
  rw [Bool.eq_iff_iff, h]; simp
theorem binI_yl {op : BinOp} {k : IntKind} {p q : Int} (hop : op ≠ .shl ∧ op ≠ .shr) : Yl (binI op k p q) fun v => ∃ u, (∀ ρ θ, den ρ θ v = some u) ∧ ∀ (P : Program) (w : World) (t : TypeId), (binOp op t (.int k p) (.int k q)).run P w = .ok u w := by
  unfold binI
  split
  · exact Yl.pure _ ⟨.bool (decide (p < q)), fun _ _ => by simp only [den, leI_eq, Option.some.injEq, Value.bool.injEq]; rw [Bool.eq_iff_iff]; simp, fun P w t => by simp [binOp, Op.intCmp]⟩
  · exact Yl.pure _ ⟨.bool (decide (p ≤ q)), fun _ _ => by simp [den, leI_eq], fun P w t => by simp [binOp, Op.intCmp]⟩
  · exact Yl.pure _ ⟨.bool (decide (q < p)), fun _ _ => by simp only [den, leI_eq, Option.some.injEq, Value.bool.injEq]; rw [Bool.eq_iff_iff]; simp, fun P w t => by simp [binOp, Op.intCmp]⟩
  · exact Yl.pure _ ⟨.bool (decide (q ≤ p)), fun _ _ => by simp [den, leI_eq], fun P w t => by simp [binOp, Op.intCmp]⟩
  · exact Yl.pure _ ⟨.bool (p == q), fun _ _ => by simp only [den, eqI_eq, Option.some.injEq, Value.bool.injEq]; rw [Bool.eq_iff_iff]; simp, fun P w t => by simp [binOp, Op.intCmp]⟩
  · exact Yl.pure _ ⟨.bool (p != q), fun _ _ => by simp only [den, eqI_eq, Option.some.injEq, Value.bool.injEq]; rw [Bool.eq_iff_iff]; simp, fun P w t => by simp [binOp, Op.intCmp]⟩
  · exact wrK_yl.mono fun v hv => ⟨.int k (k.wrap (p + q)), fun _ _ => by rw [hv]; rfl, fun P w t => by simp [binOp, Op.intArith]⟩
  · exact wrK_yl.mono fun v hv => ⟨.int k (k.wrap (p - q)), fun _ _ => by rw [hv]; rfl, fun P w t => by simp [binOp, Op.intArith]⟩
  · exact wrK_yl.mono fun v hv => ⟨.int k (k.wrap (p * q)), fun _ _ => by rw [hv]; rfl, fun P w t => by simp [binOp, Op.intArith]⟩
  · split
    · exact Yl.no
    · rename_i h
      have hq : q ≠ 0 := fun e => by rw [eqI_iff.2 e] at h; cases h
      exact wrK_yl.mono fun v hv => ⟨.int k (k.wrap (p.tdiv q)), fun _ _ => by rw [hv]; rfl, fun P w t => by simp [binOp, Op.intDiv, hq]⟩
  · split
    · exact Yl.no
    · rename_i h
      have hq : q ≠ 0 := fun e => by rw [eqI_iff.2 e] at h; cases h
      exact Yl.bind frc_yl fun n hn => Yl.pure _ ⟨.int k (p.tmod q), fun _ _ => by rw [hn]; rfl, fun P w t => by simp [binOp, Op.intDiv, hq]⟩
  · exact wrK_yl.mono fun v hv => ⟨.int k (k.wrap (BitVec.ofInt k.bits p &&& BitVec.ofInt k.bits q).toNat), fun _ _ => by rw [hv]; rfl, fun P w t => by simp [binOp, Op.intBits]⟩
  · exact wrK_yl.mono fun v hv => ⟨.int k (k.wrap (BitVec.ofInt k.bits p ||| BitVec.ofInt k.bits q).toNat), fun _ _ => by rw [hv]; rfl, fun P w t => by simp [binOp, Op.intBits]⟩
  · exact wrK_yl.mono fun v hv => ⟨.int k (k.wrap (BitVec.ofInt k.bits p ^^^ BitVec.ofInt k.bits q).toNat), fun _ _ => by rw [hv]; rfl, fun P w t => by simp [binOp, Op.intBits]⟩
  · exact Yl.no
theorem shI_yl {op : BinOp} {k j : IntKind} {p q : Int} : Yl (shI op k p q) fun v => ∃ u, (∀ ρ θ, den ρ θ v = some u) ∧ ∀ (P : Program) (w : World) (t : TypeId), (binOp op t (.int k p) (.int j q)).run P w = .ok u w := by
  unfold shI
  split
  · rename_i h
    have hq : ¬ q < 0 := by have := leI_iff.1 h; omega
    split
    · exact wrK_yl.mono fun v hv => ⟨.int k (k.wrap (p * 2 ^ (min q.toNat k.bits))), fun _ _ => by rw [hv]; rfl, fun P w t => by simp [binOp, Op.shift, hq]⟩
    · exact Yl.bind frc_yl fun n hn => Yl.pure _ ⟨.int k (p.fdiv (2 ^ (min q.toNat k.bits))), fun _ _ => by rw [hn]; rfl, fun P w t => by simp [binOp, Op.shift, hq]⟩
    · exact Yl.no
  · exact Yl.no
theorem in64_ok {pc : PC} {e : Lin} (h : in64 pc e = true) (hs : Sat ρ pc) : -9223372036854775808 ≤ e.den ρ ∧ e.den ρ ≤ 9223372036854775807 := by
  unfold in64 at h
  split at h
  · simp only [Bool.and_eq_true, leI_iff] at h
    rw [const_den]; exact h
  · simp only [Bool.and_eq_true] at h
    have h1 := proves_ok h.1 hs
    have h2 := proves_ok h.2 hs
    rw [add_den, const_den] at h1
    rw [sub_den, const_den] at h2
    omega
theorem linX_yl {op : BinOp} {k : IntKind} {p q : Lin} (hs : Sat ρ pc) : Yl (fun K => linX op k p q pc fun v pc => K (v, pc)) fun r => Sat ρ r.2 ∧ ∃ u, (∀ θ, den ρ θ r.1 = some u) ∧ ∀ (P : Program) (w : World) (t : TypeId), (binOp op t (.int k (p.den ρ)) (.int k (q.den ρ))).run P w = .ok u w := by
  unfold linX
  split
  · refine Yl.map (fun r : Bool × PC => (SV.b (!r.1), r.2)) (dec2_yl hs) fun r hr => ?_
    refine ⟨hr.2, .bool (decide (p.den ρ < q.den ρ)), fun θ => ?_, fun P w t => by simp [binOp, Op.intCmp]⟩
    simp only [den, hr.1, sub_den, Option.some.injEq, Value.bool.injEq]
    rw [Bool.eq_iff_iff]; simp
  · refine Yl.map (fun r : Bool × PC => (SV.b r.1, r.2)) (dec2_yl hs) fun r hr => ?_
    refine ⟨hr.2, .bool (decide (p.den ρ ≤ q.den ρ)), fun θ => ?_, fun P w t => by simp [binOp, Op.intCmp]⟩
    simp only [den, hr.1, sub_den, Option.some.injEq, Value.bool.injEq]
    rw [Bool.eq_iff_iff]; simp
  · refine Yl.map (fun r : Bool × PC => (SV.b (!r.1), r.2)) (dec2_yl hs) fun r hr => ?_
    refine ⟨hr.2, .bool (decide (q.den ρ < p.den ρ)), fun θ => ?_, fun P w t => by simp [binOp, Op.intCmp]⟩
    simp only [den, hr.1, sub_den, Option.some.injEq, Value.bool.injEq]
    rw [Bool.eq_iff_iff]; simp
  · refine Yl.map (fun r : Bool × PC => (SV.b r.1, r.2)) (dec2_yl hs) fun r hr => ?_
    refine ⟨hr.2, .bool (decide (q.den ρ ≤ p.den ρ)), fun θ => ?_, fun P w t => by simp [binOp, Op.intCmp]⟩
    simp only [den, hr.1, sub_den, Option.some.injEq, Value.bool.injEq]
    rw [Bool.eq_iff_iff]; simp
  · refine Yl.bind2 (dec2_yl hs) fun b pc' hr => ?_
    simp only at hr
    rw [sub_den] at hr
    split
    · refine Yl.map (fun r : Bool × PC => (SV.b (r.1), r.2)) (dec2_yl hr.2) fun r hr2 => ?_
      refine ⟨hr2.2, .bool (p.den ρ == q.den ρ), fun θ => ?_, fun P w t => by simp [binOp, Op.intCmp]⟩
      have h1 := hr.1
      simp only [den, hr2.1, sub_den, Option.some.injEq, Value.bool.injEq]
      rw [Bool.eq_iff_iff]; simp at h1 ⊢; omega
    · refine Yl.pure (SV.b false, pc') ⟨hr.2, .bool (p.den ρ == q.den ρ), fun θ => ?_, fun P w t => by simp [binOp, Op.intCmp]⟩
      have h1 := hr.1
      simp only [den, Option.some.injEq, Value.bool.injEq]
      rw [Bool.eq_iff_iff]; simp at h1 ⊢; omega
  · refine Yl.bind2 (dec2_yl hs) fun b pc' hr => ?_
    simp only at hr
    rw [sub_den] at hr
    split
    · refine Yl.map (fun r : Bool × PC => (SV.b (!r.1), r.2)) (dec2_yl hr.2) fun r hr2 => ?_
      refine ⟨hr2.2, .bool (p.den ρ != q.den ρ), fun θ => ?_, fun P w t => by simp [binOp, Op.intCmp]⟩
      have h1 := hr.1
      simp only [den, hr2.1, sub_den, Option.some.injEq, Value.bool.injEq]
      rw [Bool.eq_iff_iff]; simp at h1 ⊢; omega
    · refine Yl.pure (SV.b true, pc') ⟨hr.2, .bool (p.den ρ != q.den ρ), fun θ => ?_, fun P w t => by simp [binOp, Op.intCmp]⟩
      have h1 := hr.1
      simp only [den, Option.some.injEq, Value.bool.injEq]
      rw [Bool.eq_iff_iff]; simp at h1 ⊢; omega
  · split
    · rename_i h
      simp only [Bool.and_eq_true, ikEq_iff] at h
      obtain ⟨rfl, h⟩ := h
      have := in64_ok h hs
      rw [add_den] at this
      refine Yl.pure (_, _) ⟨hs, .int .i64 (p.den ρ + q.den ρ), fun θ => by rw [svx_den, add_den], fun P w t => ?_⟩
      simp [binOp, Op.intArith]; exact IntWalk.i64_in _ this
    · exact Yl.no
  · split
    · rename_i h
      simp only [Bool.and_eq_true, ikEq_iff] at h
      obtain ⟨rfl, h⟩ := h
      have := in64_ok h hs
      rw [sub_den] at this
      refine Yl.pure (_, _) ⟨hs, .int .i64 (p.den ρ - q.den ρ), fun θ => by rw [svx_den, sub_den], fun P w t => ?_⟩
      simp [binOp, Op.intArith]; exact IntWalk.i64_in _ this
    · exact Yl.no
  · exact Yl.no

/-! ### Strings -/
theorem bstr_toList (l : List UInt8) : (bstr l).toList = l := by rw [ByteArray.toList_eq]; simp [bstr]
theorem bstr_size (l : List UInt8) : (bstr l).size = l.length := by simp [bstr, ByteArray.size]
theorem bstr_app (l m : List UInt8) : bstr l ++ bstr m = bstr (l ++ m) := by
  have : (bstr l ++ bstr m).data = (bstr (l ++ m)).data := by simp [bstr]
  cases h : bstr l ++ bstr m
  cases h2 : bstr (l ++ m)
  rw [h, h2] at this
  simp at this
  rw [this]
theorem bstr_ext (l : List UInt8) (a b : Nat) : (bstr l).extract a b = bstr ((l.drop a).take (b - a)) := by
  have : ((bstr l).extract a b).data = (bstr ((l.drop a).take (b - a))).data := by
    rw [ByteArray.data_extract]
    apply Array.ext'
    rw [Array.toList_extract]
    rfl
  cases h : (bstr l).extract a b
  cases h2 : bstr ((l.drop a).take (b - a))
  rw [h, h2] at this
  simp at this
  rw [this]
end
end X
end Go.Proofs.YtppdehodcoffbaaGreatDoor
