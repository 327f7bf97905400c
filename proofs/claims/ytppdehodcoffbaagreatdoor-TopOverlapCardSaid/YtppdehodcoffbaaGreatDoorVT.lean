/-
  All operations. Over any program.
-/
import Derived.Test.YtppdehodcoffbaaGreatDoorVS
import Derived.Laws.Externs
set_option linter.unusedSimpArgs false
set_option linter.unusedVariables false
namespace Go.Proofs.YtppdehodcoffbaaGreatDoor
namespace X
open Go.RowKit B

/-! ### A function that answers its argument -/
theorem find_same {fn : Func} (hn : fn.name = "internal/abi.NoEscape") (ho : fn.origin = "") : Extern.findNext fn = none ∧ Extern.find fn = some Extern.AbiNoEscape.same := by
  constructor
  · simp only [Extern.findNext, hn, ho]
    have h1 : Extern.allNextRows.lookup "internal/abi.NoEscape" = none := by kernel_rfl
    have h2 : Extern.allNextRows.lookup "" = none := by kernel_rfl
    rw [h1, h2]; rfl
  · simp only [Extern.find, hn, ho]
    have h1 : Extern.allGenericRows.lookup "internal/abi.NoEscape" = none := by kernel_rfl
    have h2 : Extern.allTypedRows.lookup "internal/abi.NoEscape" = none := by kernel_rfl
    have h3 : Extern.allRows.lookup "internal/abi.NoEscape" = some Extern.AbiNoEscape.same := by kernel_rfl
    rw [h1, h2, h3]; rfl
theorem same_run {P : Program} {f : Nat} (h : isSame P f = true) (v : Value) (w : World) : (callFunc f #[v]).run P w = .ok (.value v) w := by
  unfold isSame at h
  split at h
  · rename_i fn hf
    simp only [Bool.and_eq_true, beq_iff_eq] at h
    obtain ⟨⟨h1, h2⟩, h3⟩ := h
    obtain ⟨h4, h5⟩ := find_same h2 h3
    rw [run_callFunc_extern hf (by rw [h2]; decide) h1 h4 h5]
    rfl
  · cases h

/-! ### What is told of calls -/
structure O4 where
  v : SV
  m : Mem
  nx : Nat
  pc : PC
structure CallR (P : Program) (ρ : Rho) (f : Nat) (args : List SV) (m : Mem) (nx : Nat) (r : O4) : Prop where
  enter : ∀ args w, (callFunc f args).run P w = .ok (.enter f args) w
  pc : Sat ρ r.pc
  le : nx ≤ r.nx
  new : ∀ t, m.get t = none → r.m.get t ≠ none → nx ≤ t ∧ t < r.nx
  run : ∀ (w : World) (θ : Th) (vs : List Value), dens ρ θ args = some vs → MemOk ρ θ m.get w → (∀ t, nx ≤ t → t < r.nx → θ t = none) →
    Calls P f vs.toArray w (fun e w' => ∃ v θ', e = .returned v ∧ SP ρ nx r.nx θ m.get w θ' r.m.get w' ∧ den ρ θ' r.v = some v)
def CallSp (P : Program) (ρ : Rho) (call : CallT) : Prop := ∀ f args m nx pc, Sat ρ pc → Yl (fun K => call f args m nx pc fun v m nx pc => K ⟨v, m, nx, pc⟩) (CallR P ρ f args m nx)
theorem calls_mono {P : Program} {f : FuncId} {args : Array Value} {w : World} {R R' : Ending → World → Prop} (h : Calls P f args w R) (hr : ∀ e w', R e w' → R' e w') : Calls P f args w R' := fun cs => by
  obtain ⟨e, w', fr, h1, h2⟩ := h cs
  exact ⟨e, w', fr, hr _ _ h1, h2⟩

section
variable {P : Program} {ρ : Rho} {o : Oper} {s : Tr SV} {m : Mem} {nx : Nat} {pc : PC} {call : CallT}
theorem opCall_yl {c : Call} {x : Operand} (hc : CallSp P ρ call) (hs : Sat ρ pc) (ho : o.op = .call c) (hx : c.callee = .value x) : Yl (fun K => evO s x fun v => match v with
      | .fn f fi ca => evL s c.args.toList fun vs => match isSame P f with
        | true => match fi, vs, ca with
          | [], [v], [] => K ⟨v, m, nx, pc, .n⟩
          | _, _, _ => false
        | false => appC fi vs fun l => appC l ca fun l => call f l m nx pc fun v m nx pc => K ⟨v, m, nx, pc, .c⟩
      | _ => false) (OpOk P ρ o s m nx) := by
  have hop : o.op.operands.toList = x :: c.args.toList := by simp [ho, Op.operands, Call.operands, hx]
  refine Yl.bind (evO_yl (ρ := ρ)) fun v hv => ?_
  split
  · rename_i f fi ca
    refine Yl.bind (evL_yl (ρ := ρ)) fun vs hvs => ?_
    have key : ∀ {a : Act} {θ : Th}, SlOk ρ s θ a o.op.operands.toList → ∃ fv cv, dens ρ θ fi = some fv ∧ dens ρ θ ca = some cv ∧ dens ρ θ vs = some (c.args.toList.map a.eval) ∧
        ∀ w, (execOp a.eval o).run P w = (callFunc f (fv ++ c.args.toList.map a.eval ++ cv).toArray).run P w := fun {a θ} hsl => by
      rw [hop] at hsl
      have h1 := hsl.ev (by simp) hv
      have h2 := hsl.evs (fun x hx => by simp [hx]) hvs
      simp only [den, Option.bind_eq_some_iff, Option.map_eq_some_iff] at h1
      obtain ⟨fv, e1, cv, e2, e3⟩ := h1
      refine ⟨fv, cv, e1, e2, h2, fun w => ?_⟩
      have e4 : (fv.toArray ++ Array.map a.eval c.args ++ cv.toArray) = (fv ++ c.args.toList.map a.eval ++ cv).toArray := by
        apply Array.ext'; simp
      simp only [execOp, ho, resolve, hx, ← e3, Deferred.ofValue, Sem.run_bind, Sem.run_pure, Result.andThen_ok, invoke, e4]
    split
    · rename_i hsame
      split
      · rename_i v'
        refine Yl.pure _ (OpOk.pure hs fun a w θ hsl => ?_)
        obtain ⟨fv, cv, e1, e2, e3, e4⟩ := key hsl
        cases e1; cases e2
        simp only [dens, Option.bind_eq_some_iff, Option.map_eq_some_iff, Option.some.injEq] at e3
        obtain ⟨u, e5, us, rfl, e6⟩ := e3
        refine ⟨u, ?_, e5⟩
        unfold Runs
        rw [e4 w, ← e6]
        exact same_run hsame u w
      · exact Yl.no
    · refine Yl.bind appC_yl fun l1 hl1 => Yl.bind appC_yl fun l2 hl2 => ?_
      subst hl1
      subst hl2
      refine Yl.map (fun r : O4 => (⟨r.v, r.m, r.nx, r.pc, .c⟩ : O5)) (hc f _ m nx pc hs) fun r hr => ?_
      exact {
        pc := hr.pc
        le := hr.le
        off := fun t ht => absurd trivial ht
        rd := fun _ h => by cases h
        new := hr.new
        run := fun a w θ h1 h2 h3 => by
          obtain ⟨fv, cv, e1, e2, e3, e4⟩ := key h1
          unfold Oper.wp
          rw [e4 w, hr.enter, Oper.upon_enter]
          rw [subM_c] at h2
          refine calls_mono (hr.run w θ _ (dens_append (dens_append e1 e3) e2) h2 h3) fun e w' h => ?_
          obtain ⟨v, θ', rfl, h4, h5⟩ := h
          exact ⟨v, θ', rfl, by rw [subM_c, subM_c]; exact h4, h5⟩ }
  · exact Yl.no
theorem list1 {α : Type} {a : Array α} {x : α} (h : a.toList = [x]) : a = #[x] := Array.ext' h
theorem list2 {α : Type} {a : Array α} {x y : α} (h : a.toList = [x, y]) : a = #[x, y] := Array.ext' h
theorem opBuiltin_yl {c : Call} {b : Builtin} (hs : Sat ρ pc) (ho : o.op = .call c) (hx : c.callee = .builtin b) : Yl (fun K => opBuiltin P s m nx pc b c.args.toList c.argTypes.toList fun v m nx pc ft => K ⟨v, m, nx, pc, ft⟩) (OpOk P ρ o s m nx) := by
  obtain ⟨callee, args, ts⟩ := c
  simp only at hx ⊢
  subst hx
  unfold opBuiltin
  split
  · rename_i h1 h2; exact opLen_yl hs (by rw [ho, list1 h1, list1 h2])
  · rename_i h1 h2; exact opAppend_yl hs (by rw [ho, list2 h1, list2 h2])
  · rename_i h1 h2; exact opMM_yl (mx := true) hs (by rw [ho, list2 h1, list2 h2])
  · rename_i h1 h2; exact opMM_yl (mx := false) hs (by rw [ho, list2 h1, list2 h2])
  · rename_i h1 h2; exact opCopy_yl hs (by rw [ho, list2 h1, list2 h2])
  · rename_i h1 h2; exact opDelete_yl hs (by rw [ho, list2 h1, show ts = _ from Array.ext' h2])
  · rename_i h1; exact opSData_yl hs (by rw [ho, list1 h1])
  · rename_i h1 h2; exact opUString_yl hs (by rw [ho, list2 h1, list2 h2])
  · exact Yl.no
theorem opx_yl (hc : CallSp P ρ call) (hs : Sat ρ pc) : Yl (fun K => opx P call s m nx pc o fun v m nx pc ft => K ⟨v, m, nx, pc, ft⟩) (OpOk P ρ o s m nx) := by
  unfold opx
  split
  · rename_i x ho
    refine Yl.map (fun v => (⟨v, m, nx, pc, .n⟩ : O5)) (evO_yl (ρ := ρ)) fun v hv => OpOk.pure hs fun a w θ hsl => ?_
    rw [show o.op.operands.toList = [x] by simp [ho, Op.operands]] at hsl
    exact ⟨_, r_move ho rfl, hsl.ev (by simp) hv⟩
  · rename_i x ho
    refine Yl.map (fun v => (⟨v, m, nx, pc, .n⟩ : O5)) (evO_yl (ρ := ρ)) fun v hv => OpOk.pure hs fun a w θ hsl => ?_
    rw [show o.op.operands.toList = [x] by simp [ho, Op.operands]] at hsl
    exact ⟨_, r_assign ho rfl, hsl.ev (by simp) hv⟩
  · rename_i ho; exact opPick_yl hs ho
  · rename_i ho; exact opLoad_yl hs ho
  · rename_i ho; exact opStore_yl hs ho
  · rename_i ho; exact opFieldAddr_yl hs ho
  · rename_i ho; exact opNil_yl hs ho
  · rename_i ho; exact opBin_yl hs ho
  · rename_i ho; exact opUn_yl hs ho
  · rename_i ho; exact opIndexAddr_yl hs ho
  · rename_i ho; exact opExtract_yl hs ho
  · rename_i c ho
    split
    · rename_i x hx; exact opCall_yl hc hs ho hx
    · rename_i b hx; exact opBuiltin_yl hs ho hx
    · exact Yl.no
  · rename_i ho; exact opAlloc_yl hs ho
  · rename_i ho; exact opBox_yl hs ho
  · rename_i ho; exact opBuild_yl hs ho
  · rename_i ho; exact opBuildSlice_yl hs ho
  · rename_i ho; exact opConv_yl hs ho
  · rename_i ho; exact opFunc_yl hs ho
  · rename_i ho; exact opMakeMap_yl hs ho
  · rename_i ho; exact opMakeSlice_yl hs ho
  · rename_i ho; exact opSlice_yl hs ho
  · rename_i ho; exact opField_yl hs ho
  · rename_i ho; exact opIndex_yl hs ho
  · rename_i ho; exact opLookup_yl hs ho
  · rename_i ho; exact opUpdate_yl hs (.inl ho)
  · rename_i ho; exact opUpdate_yl hs (.inr ho)
  · exact Yl.no
end
end X
end Go.Proofs.YtppdehodcoffbaaGreatDoor
