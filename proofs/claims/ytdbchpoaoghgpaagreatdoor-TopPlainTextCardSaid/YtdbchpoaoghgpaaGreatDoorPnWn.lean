/-
  The law TopPlainText answers true for every text, all pairs of numbers and every text that is put in, and changes none of its arguments: the row, and its tied card.
  Conditions: those of the given row alone (what it lists of package-level variables, its ways of reading Go's open orders).
-/
import Derived.Test.YtdbchpoaoghgpaaGreatDoorRows
import Derived.Test.YtdbchpoaoghgpaaGreatDoorTie
import Derived.Test.YtdbchpoaoghgpaaGreatDoorCards
import Derived.Test.YtdbchpoaoghgpaaGreatDoorP7
import Derived.Test.YtdbchpoaoghgpaaGreatDoorBase8
import Derived.Test.YtdbchpoaoghgpaaGreatDoorPnJ1
import Derived.Test.YtdbchpoaoghgpaaGreatDoorPnJ2
import Derived.Test.YtdbchpoaoghgpaaGreatDoorPnJ3
import Derived.Test.YtdbchpoaoghgpaaGreatDoorPnJ4
import Derived.Test.YtdbchpoaoghgpaaGreatDoorPnJ5
import Derived.ProofKit
import Derived.LaidMore
import Derived.OpenShut
import Derived.ChangeSame
import Derived.ChangeVars
import Derived.JoinedOf
import Derived.RowKitTokens
import Derived.LaidLaws
import Derived.LaidHandle
import Derived.Stop.Joined
import Derived.ChangeMaps5
import Derived.SevenTiedAt
set_option linter.unusedSimpArgs false
set_option linter.unusedVariables false
namespace Go.Proofs.YtdbchpoaoghgpaaGreatDoor
open Go.ChangeShapes Go.WideShapes Go.ChangeAt Go.RowKit
namespace X
open B
theorem ownK : ownKnob Tryz.prog.godebug = none := by kernel_rfl
theorem joined : joinedFacts Tryz.prog 3 Tryz.f3 Rows.topPlainTextSpec Rows.topPlainTextRow = true := by
  unfold joinedFacts
  simp only [Bool.and_eq_true]
  and_intros <;> first | with_reducible exact j_laid | with_reducible exact j_maps | with_reducible exact j_place | with_reducible exact j_unf | with_reducible exact j_rec | with_reducible exact j_named | with_reducible exact j_keys | with_reducible exact j_heard | with_reducible exact j_enter | kernel_rfl
/-- The door's own heap meets the condition. -/
theorem door_met (os : Os) (args : Array Value) : laidMetH Tryz.prog Rows.topPlainTextRow.laid ((World.doorLaid Tryz.prog 24 os).forCall (fun _ _ => 0) ⟨#[], args, []⟩).memory :=
  laidMetH_of_parts3 (fuel := 8) (laidMet_of_run' 8 (by kernel_rfl) (by kernel_rfl)) (by kernel_rfl) (by kernel_rfl)
theorem open_s {P : Program} {W : World} {H : Type} {enc : TypeId × Value → H} {base : Nat} {spare : Nat → Bool} {held : Bool} {t : TypeId} (ht : P.underlying t = some .string) {r : Reach} {b0 : Nat} {v : Value} (hv : Value.okWide P W r b0 t v) {d : DataW H} {p : List MemPlace} (h : DataW.Trod enc P W base spare held t v d p) : ∃ l : List UInt8, v = .string (bstr l) := by
  obtain ⟨s, rfl, _⟩ := Go.ChangeMaps.open_string ht hv h
  exact ⟨s.data.toList, by simp [bstr]⟩
set_option maxRecDepth 100000 in
theorem topPlainText_contract (H : Type) (enc : TypeId × Value → H) (W : World) (base : Nat) (args : Array Value) (ds gs : List (DataW H)) (before : List MemPlace)
    (hval : ∀ (j : Nat) t v, Tryz.f3.params[j]? = some t → args[j]? = some v → Value.okWide Tryz.prog W .any base t v)
    (hW : DataW.Whole enc Tryz.prog Tryz.f3.params.toList Rows.topPlainTextSpec.vars false W args.toList ds gs before) :
    Calls Tryz.prog 3 args W fun e W' => ∃ v, e = .returned v ∧ Rows.topPlainTextSpec.post enc Tryz.prog Tryz.f3 false true false false W args v W' := by
  have hW' := hW
  obtain ⟨p, q, hA0, hV, rfl, hfz, hnd⟩ := hW
  have hA : DataW.TrodAll enc Tryz.prog W 0 (fun _ => true) true Tryz.f3.params.toList args.toList ds p := hA0
  rw [Tryz.params3] at hA hval
  obtain ⟨v0, vs0, d0, ds0, p0, q0, hargs0, rfl, rfl, h0, r0⟩ := trodAll_cons hA
  obtain ⟨v1, vs1, d1, ds1, p1, q1, hargs1, rfl, rfl, h1, r1⟩ := trodAll_cons r0
  obtain ⟨v2, vs2, d2, ds2, p2, q2, hargs2, rfl, rfl, h2, r2⟩ := trodAll_cons r1
  obtain ⟨rfl, rfl, rfl⟩ := trodAll_nil r2
  subst hargs2
  subst hargs1
  obtain rfl : args = #[v0, v1, v2] := by cases args; simp_all
  obtain ⟨l0, rfl⟩ := open_s Tryz.underlying9 (hval 0 9 v0 rfl rfl) h0
  obtain ⟨xs, hx⟩ := open_sl (E := SpanE) Tryz.underlying22 (by kernel_rfl) (reads_arr2 Tryz.underlying49 (by kernel_rfl) (by kernel_rfl) Tryz.underlying3) (hval 1 22 v1 rfl rfl) h1
  obtain ⟨l2, rfl⟩ := open_s Tryz.underlying9 (hval 2 9 v2 rfl rfl) h2
  exact (topPlain_c l0 l2 hx).mono fun e W' ⟨he, hx⟩ => ⟨_, he, post_true j_laid hW' rfl (by kernel_rfl) rfl rfl Tryz.underlying4 hx⟩
set_option maxRecDepth 100000 in
theorem topPlainText_lifted (os : Os) (started : os.Started) (H : Type) (enc : TypeId × Value → H) :
    ReturnsInHanded {} Tryz.checked os 3 .any (fun w args => (Rows.topPlainTextSpec.pre enc Tryz.prog Tryz.f3 [] false w args ∧ laidMetH Tryz.prog Rows.topPlainTextRow.laid w) ∧ sizedMet enc Tryz.prog Tryz.f3 (OpenSpec.ofChange Rows.topPlainTextSpec) false w args)
      (Rows.topPlainTextSpec.post enc Tryz.prog Tryz.f3 false true false false) := by
  refine returnsInHanded_of_change_and (C := Tryz.checked) (X := fun w _ => laidMetH Tryz.prog Rows.topPlainTextRow.laid w) (fun _ _ _ hh h => h.of_heap hh) ownK started (by kernel_rfl) Tryz.func3
    (ChangeSpec.witness_shaped (enc := enc) (C := Tryz.checked) (os := os) (X := fun w _ => laidMetH Tryz.prog Rows.topPlainTextRow.laid w) false (World.doorLaid Tryz.prog 24 os) #[.string ⟨#[]⟩, .slice none 0 0, .string ⟨#[]⟩] 8 rfl (World.shaped_of_RefB (by kernel_rfl) (by kernel_rfl)) (by kernel_rfl) (by kernel_rfl) (by kernel_rfl) (door_met os _)) ?_
  intro W base args ds gs before hval hW _ _ _ _
  exact topPlainText_contract H enc W base args ds gs before hval hW
theorem topPlainText_holds : Rows.TopPlainTextSaid :=
  OpenClaim.holds_of_wide 3 Tryz.f3 rfl rfl rfl rfl rfl rfl rfl ⟨rfl, rfl, rfl, rfl, rfl⟩ rfl rfl rfl rfl rfl j_fn Tryz.func3 joined
    (of_decide_eq_true (by kernel_rfl)) (by unfold Func.isWrapper; first | (rw [if_pos (by decide +kernel)]; kernel_rfl) | (rw [if_neg (by decide +kernel)]; exact ⟨rfl, rfl⟩))
    (fun os started H enc _ => topPlainText_lifted os started H enc)
theorem topPlainText_card : Rows.TopPlainTextCardSaid :=
  Claim7.holds_tied_plain_at .later [] [.data, .data, .data] true (true, "bc9f839e5d64eafaa6866776bf53d843b56b2baf766ac4a7c1c0db5871afbb99") false
    topPlainText_holds (fun _ h => by cases h) (by kernel_rfl) (fun _ h => by cases h) topPlainText_row_tie rfl ⟨rfl, rfl⟩ j_main rfl
    (fun f fn hf hfn => by
      obtain rfl : f = 3 := Option.some.inj (j_fn.symm.trans hf) |>.symm
      obtain rfl : fn = Tryz.f3 := (Option.some.inj (Tryz.func3.symm.trans hfn)).symm
      exact ⟨j_looks.symm, fun j t ht => by
        rw [Tryz.params3] at ht
        have h3 : t = 22 ∨ t = 9 := by
          rcases j with _ | _ | _ | j <;> simp at ht <;> simp [← ht]
        rcases h3 with rfl | rfl
        · exact j_w22
        · exact j_w9⟩)
    j_goes.symm
end X
end Go.Proofs.YtdbchpoaoghgpaaGreatDoor
