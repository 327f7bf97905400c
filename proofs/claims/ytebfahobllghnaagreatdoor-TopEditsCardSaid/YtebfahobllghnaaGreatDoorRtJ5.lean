/-
  TopEdits: RtJ5.
-/
import Derived.Test.YtebfahobllghnaaGreatDoorRows
import Derived.JoinedOf
import GoSem.ClaimSeven
import Derived.SevenTiedAt
set_option linter.unusedSimpArgs false
set_option linter.unusedVariables false
namespace Go.Proofs.YtebfahobllghnaaGreatDoor
namespace X
set_option maxRecDepth 1000000
theorem j_any : (Tryz.prog.funcs.any Func.goes) = false := by kernel_rfl
theorem goes_of {P : Program} (h : P.funcs.any Func.goes = false) (f : FuncId) : P.goes f = false := by
  have hg : ∀ g : Nat, (P.funcs[g]?).any Func.goes = false := fun g => by
    cases hx : P.funcs[g]? with
    | none => rfl
    | some fn =>
      obtain ⟨hl, he⟩ := Array.getElem?_eq_some_iff.1 hx
      have := Array.any_eq_false.1 h g hl
      rw [he] at this
      simpa using this
  unfold Program.goes
  rw [h]
  simp [hg]
theorem goesAt_of {P : Program} (hg : ∀ f, P.goes f = false) (start : Start) (func : String) : P.goesAt start func = false := by
  unfold Program.goesAt Program.goesFrom
  have h1 : (P.funcNamed func).any P.goes = false := by
    cases P.funcNamed func with
    | none => rfl
    | some f => exact hg f
  have h2 : P.inits.toList.any P.goes = false := by simp [hg]
  rw [h1, h2]
  cases start <;> rfl
theorem j_goes : (Rows.topEditsRow.goesBy Tryz.prog) = false := goesAt_of (goes_of j_any) _ _
end X
end Go.Proofs.YtebfahobllghnaaGreatDoor
