/-
  The statements of this seat, from the walks of their functions. Printed by a program (rows.py).
-/
import Derived.Test.YtfkjmkngiiokmaaRows
import Derived.Test.YtfkjmkngiiokmaaBase8
import Derived.Test.YtfkjmkngiiokmaaLChangeBack
import Derived.ProofKit
import Derived.OpenShut
import Derived.ChangeMaps5
set_option linter.unusedSimpArgs false
set_option linter.unusedVariables false
namespace Go.Proofs.Ytfkjmkngiiokmaa
open Go.ChangeShapes Go.WideShapes Go.ChangeAt Go.RowKit
namespace B
theorem ownK : ownKnob Try.prog.godebug = none := by kernel_rfl
theorem laidOut : laidOutB Try.prog = true := by kernel_rfl
theorem reads43 : Reads Try.prog 43 SpanE := reads_span Try.underlying43 (by kernel_rfl) rfl rfl (by kernel_rfl) (by kernel_rfl) Try.underlying3 Try.underlying3
theorem reads45 : Reads Try.prog 45 EditE := reads_edit Try.underlying45 (by kernel_rfl) rfl rfl rfl (by kernel_rfl) (by kernel_rfl) reads43 Try.underlying9
theorem reads_piece {P : Program} {e : TypeId} {f0 f1 f2 : Field} (he : P.underlying e = some (.struct #[f0, f1, f2])) (ce : P.cellsOf e = 3) (o0 : f0.offset = 0) (o1 : f1.offset = 1) (o2 : f2.offset = 2) (c0 : P.cellsOf f0.type = 1) (c1 : P.cellsOf f1.type = 1) (c2 : P.cellsOf f2.type = 1)
    (t0 : P.underlying f0.type = some (.int .i64)) (t1 : P.underlying f1.type = some (.int .i64)) (t2 : P.underlying f2.type = some .string) : Reads P e EditE := fun H enc w base spare held n cs y h => by
  obtain ⟨xs, m, _, _, hl, hlen, hf⟩ := DataW.trod_struct he h
  match xs, hlen with
  | [y0, y1, y2], _ =>
    obtain ⟨a, ha, _⟩ := DataW.trod_int t0 (by simpa using hf 0 f0 rfl)
    obtain ⟨b, hb, _⟩ := DataW.trod_int t1 (by simpa using hf 1 f1 rfl)
    obtain ⟨u, hu, _⟩ := DataW.trod_string t2 (by simpa using hf 2 f2 rfl)
    rw [o0, c0] at ha
    rw [o1, c1] at hb
    rw [o2, c2] at hu
    exact ⟨(a, b, u), three_cells (hl.trans ce) ha hb hu⟩
theorem reads68 : Reads Try.prog 68 EditE := reads_piece Try.underlying68 (by kernel_rfl) rfl rfl rfl (by kernel_rfl) (by kernel_rfl) (by kernel_rfl) Try.underlying3 Try.underlying3 Try.underlying9

theorem changeBack_contract (H : Type) (enc : TypeId × Value → H) (W : World) (base : Nat) (args : Array Value) (ds gs : List (DataW H)) (before : List MemPlace)
    (hval : ∀ (j : Nat) t v, Try.f6.params[j]? = some t → args[j]? = some v → Value.okWide Try.prog W .any base t v)
    (hW : DataW.Whole enc Try.prog Try.f6.params.toList Rows.changeBackSpec.vars false W args.toList ds gs before) :
    Calls Try.prog 6 args W fun e W' => ∃ v, e = .returned v ∧ Rows.changeBackSpec.post enc Try.prog Try.f6 false true false false W args v W' := by
  have hW' := hW
  obtain ⟨p, q, hA0, hV, rfl, hfz, hnd⟩ := hW
  have hA : DataW.TrodAll enc Try.prog W 0 (fun _ => true) true Try.f6.params.toList args.toList ds p := hA0
  rw [Try.params6] at hA hval
  obtain ⟨v0, vs0, d0, ds0, p0, q0, hargs0, rfl, rfl, h0, r0⟩ := trodAll_cons hA
  obtain ⟨v1, vs1, d1, ds1, p1, q1, hargs1, rfl, rfl, h1, r1⟩ := trodAll_cons r0
  obtain ⟨v2, vs2, d2, ds2, p2, q2, hargs2, rfl, rfl, h2, r2⟩ := trodAll_cons r1
  obtain ⟨rfl, rfl, rfl⟩ := trodAll_nil r2
  subst hargs2
  subst hargs1
  obtain rfl : args = #[v0, v1, v2] := by cases args; simp_all
  obtain ⟨x0, rfl, rfl, rfl, b0⟩ := Go.ChangeMaps.open_string Try.underlying9 (hval 0 9 v0 rfl rfl) h0
  obtain ⟨x1, s1⟩ := open_sl (E := EditE) Try.underlying38 (by kernel_rfl) reads68 (hval 1 38 v1 rfl rfl) h1
  obtain ⟨x2, rfl, b2⟩ := open_i64 Try.underlying3 (hval 2 3 v2 rfl rfl) h2
  exact (changeBack_c x0 v1 x1 x2 W s1).mono fun e W' ⟨he, hx⟩ => ⟨_, he, post_true laidOut hW' rfl (by kernel_rfl) rfl rfl Try.underlying4 hx⟩
set_option maxRecDepth 100000 in
theorem changeBack_lifted (os : Os) (started : os.Started) (H : Type) (enc : TypeId × Value → H) :
    ReturnsInHanded {} Try.checked os 6 .any (Rows.changeBackSpec.pre6 enc Try.prog Try.f6 Rows.changeBackRow.domain false) (Rows.changeBackSpec.post enc Try.prog Try.f6 false true false false) := by
  refine returnsInHanded_of_change (C := Try.checked) ownK started (by kernel_rfl) Try.func6
    (ChangeSpec.witness6 (enc := enc) (C := Try.checked) false ⟨#[], #[.string ⟨#[]⟩, .slice none 0 0, .int .i64 0], []⟩ 8 (by kernel_rfl) (by kernel_rfl) (by kernel_rfl) (by kernel_rfl)) ?_
  intro W base args ds gs before hval hW _ _
  exact changeBack_contract H enc W base args ds gs before hval hW
theorem changeBack_holds : Rows.ChangeBackSaid :=
  OpenClaim.holds_of_wide 6 Try.f6 rfl rfl rfl rfl rfl rfl rfl ⟨rfl, rfl, rfl, rfl, rfl⟩ rfl rfl rfl rfl rfl (by kernel_rfl) Try.func6 (by kernel_rfl)
    (of_decide_eq_true (by kernel_rfl)) (by unfold Func.isWrapper; first | (rw [if_pos (by decide +kernel)]; kernel_rfl) | (rw [if_neg (by decide +kernel)]; exact ⟨rfl, rfl⟩))
    (fun os started H enc _ => changeBack_lifted os started H enc)
end B
end Go.Proofs.Ytfkjmkngiiokmaa
