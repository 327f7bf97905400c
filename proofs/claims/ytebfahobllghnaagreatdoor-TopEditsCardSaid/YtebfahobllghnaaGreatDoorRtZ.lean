/-
  The law TopEdits answers true for every text, all pairs of numbers, all gaps and lengths, all texts and every number, whether they share memory or not, and changes none of its arguments: the row, and its tied card.
  Conditions: those of the given row alone (what it lists of package-level variables, its ways of reading Go's open orders).
-/
import Derived.Test.YtebfahobllghnaaGreatDoorRows
import Derived.Test.YtebfahobllghnaaGreatDoorTie
import Derived.Test.YtebfahobllghnaaGreatDoorCards
import Derived.ProofKit
import Derived.LaidMore
import Derived.OpenShut
import Derived.ChangeSame
import Derived.ChangeVars
import Derived.JoinedOf
import Derived.RowKitTokens
import Derived.LaidLaws
import Derived.LaidHandle
import Derived.Stop.Joined
import Derived.ChangeMaps5
import Derived.SevenTiedAt
import Derived.Test.YtebfahobllghnaaGreatDoorEdE7
import Derived.Test.YtebfahobllghnaaGreatDoorEdB7
import Derived.Test.YtebfahobllghnaaGreatDoorRtJ1
import Derived.Test.YtebfahobllghnaaGreatDoorRtJ2
import Derived.Test.YtebfahobllghnaaGreatDoorRtJ3
import Derived.Test.YtebfahobllghnaaGreatDoorRtJ4
import Derived.Test.YtebfahobllghnaaGreatDoorRtJ5
set_option linter.unusedSimpArgs false
set_option linter.unusedVariables false
namespace Go.Proofs.YtebfahobllghnaaGreatDoor
open Go.ChangeShapes Go.WideShapes Go.ChangeAt Go.RowKit
namespace X
open B
theorem ownK : ownKnob Tryz.prog.godebug = none := by kernel_rfl
theorem joined : joinedFacts Tryz.prog 3 Tryz.f3 Rows.topEditsSpec Rows.topEditsRow = true := by
  unfold joinedFacts
  simp only [Bool.and_eq_true]
  and_intros <;> first | with_reducible exact j_laid | with_reducible exact j_maps | with_reducible exact j_place | with_reducible exact j_unf | with_reducible exact j_rec | with_reducible exact j_named | with_reducible exact j_keys | with_reducible exact j_heard | with_reducible exact j_enter | kernel_rfl
theorem door_met (os : Os) (args : Array Value) : laidMetH Tryz.prog Rows.topEditsRow.laid ((World.doorLaid Tryz.prog 24 os).forCall (fun _ _ => 0) ⟨#[], args, []⟩).memory :=
  laidMetH_of_parts3 (fuel := 8) (laidMet_of_run' 8 (by kernel_rfl) (by kernel_rfl)) (by kernel_rfl) (by kernel_rfl)
theorem open_s {P : Program} {W : World} {H : Type} {enc : TypeId × Value → H} {base : Nat} {spare : Nat → Bool} {held : Bool} {t : TypeId} (ht : P.underlying t = some .string) {r : Reach} {b0 : Nat} {v : Value} (hv : Value.okWide P W r b0 t v) {d : DataW H} {p : List MemPlace} (h : DataW.Trod enc P W base spare held t v d p) : ∃ l : List UInt8, v = .string (bstr l) := by
  obtain ⟨s, rfl, _⟩ := Go.ChangeMaps.open_string ht hv h
  exact ⟨s.data.toList, by simp [bstr]⟩
set_option maxRecDepth 100000 in
theorem topEdits_contract (H : Type) (enc : TypeId × Value → H) (W : World) (base : Nat) (args : Array Value) (ds gs : List (DataW H)) (before : List MemPlace)
    (hval : ∀ (j : Nat) t v, Tryz.f3.params[j]? = some t → args[j]? = some v → Value.okWide Tryz.prog W .any base t v)
    (hW : DataW.Whole enc Tryz.prog Tryz.f3.params.toList Rows.topEditsSpec.vars false W args.toList ds gs before) :
    Calls Tryz.prog 3 args W fun e W' => ∃ v, e = .returned v ∧ Rows.topEditsSpec.post enc Tryz.prog Tryz.f3 false true false false W args v W' := by
  have hW' := hW
  obtain ⟨p, q, hA0, hV, rfl, hfz, hnd⟩ := hW
  have hA : DataW.TrodAll enc Tryz.prog W 0 (fun _ => true) true Tryz.f3.params.toList args.toList ds p := hA0
  rw [Tryz.params3] at hA hval
  obtain ⟨v0, vs0, d0, ds0, p0, q0, hargs0, rfl, rfl, h0, r0⟩ := trodAll_cons hA
  obtain ⟨v1, vs1, d1, ds1, p1, q1, hargs1, rfl, rfl, h1, r1⟩ := trodAll_cons r0
  obtain ⟨v2, vs2, d2, ds2, p2, q2, hargs2, rfl, rfl, h2, r2⟩ := trodAll_cons r1
  obtain ⟨v3, vs3, d3, ds3, p3, q3, hargs3, rfl, rfl, h3, r3⟩ := trodAll_cons r2
  obtain ⟨v4, vs4, d4, ds4, p4, q4, hargs4, rfl, rfl, h4, r4⟩ := trodAll_cons r3
  obtain ⟨rfl, rfl, rfl⟩ := trodAll_nil r4
  subst hargs4
  subst hargs3
  subst hargs2
  subst hargs1
  obtain rfl : args = #[v0, v1, v2, v3, v4] := by cases args; simp_all
  obtain ⟨l0, rfl⟩ := open_s Tryz.underlying9 (hval 0 9 v0 rfl rfl) h0
  obtain ⟨xs, hx⟩ := open_sl (E := SpanE) Tryz.underlying22 (by kernel_rfl) (reads_arr2 Tryz.underlying31 (by kernel_rfl) (by kernel_rfl) Tryz.underlying3) (hval 1 22 v1 rfl rfl) h1
  obtain ⟨ys, hy⟩ := open_sl (E := SpanE) Tryz.underlying22 (by kernel_rfl) (reads_arr2 Tryz.underlying31 (by kernel_rfl) (by kernel_rfl) Tryz.underlying3) (hval 2 22 v2 rfl rfl) h2
  obtain ⟨zs, hz⟩ := open_sl (E := StrE) Tryz.underlying23 (by kernel_rfl) (reads_str Tryz.underlying9) (hval 3 23 v3 rfl rfl) h3
  obtain ⟨n4, rfl, _⟩ := open_i64 Tryz.underlying3 (hval 4 3 v4 rfl rfl) h4
  exact (topEdits_c l0 n4 hx hy hz).mono fun e W' ⟨he, hx⟩ => ⟨_, he, post_true j_laid hW' rfl (by kernel_rfl) rfl rfl Tryz.underlying4 hx⟩
set_option maxRecDepth 100000 in
theorem topEdits_lifted (os : Os) (started : os.Started) (H : Type) (enc : TypeId × Value → H) :
    ReturnsInHanded {} Tryz.checked os 3 .any (fun w args => (Rows.topEditsSpec.pre enc Tryz.prog Tryz.f3 [] false w args ∧ laidMetH Tryz.prog Rows.topEditsRow.laid w) ∧ sizedMet enc Tryz.prog Tryz.f3 (OpenSpec.ofChange Rows.topEditsSpec) false w args)
      (Rows.topEditsSpec.post enc Tryz.prog Tryz.f3 false true false false) := by
  refine returnsInHanded_of_change_and (C := Tryz.checked) (X := fun w _ => laidMetH Tryz.prog Rows.topEditsRow.laid w) (fun _ _ _ hh h => h.of_heap hh) ownK started (by kernel_rfl) Tryz.func3
    (ChangeSpec.witness_shaped (enc := enc) (C := Tryz.checked) (os := os) (X := fun w _ => laidMetH Tryz.prog Rows.topEditsRow.laid w) false (World.doorLaid Tryz.prog 24 os) #[.string ⟨#[]⟩, .slice none 0 0, .slice none 0 0, .slice none 0 0, .int .i64 0] 8 rfl (World.shaped_of_RefB (by kernel_rfl) (by kernel_rfl)) (by kernel_rfl) (by kernel_rfl) (by kernel_rfl) (door_met os _)) ?_
  intro W base args ds gs before hval hW _ _ _ _
  exact topEdits_contract H enc W base args ds gs before hval hW
theorem topEdits_holds : Rows.TopEditsSaid :=
  OpenClaim.holds_of_wide 3 Tryz.f3 rfl rfl rfl rfl rfl rfl rfl ⟨rfl, rfl, rfl, rfl, rfl⟩ rfl rfl rfl rfl rfl j_fn Tryz.func3 joined
    (of_decide_eq_true (by kernel_rfl)) (by unfold Func.isWrapper; first | (rw [if_pos (by decide +kernel)]; kernel_rfl) | (rw [if_neg (by decide +kernel)]; exact ⟨rfl, rfl⟩))
    (fun os started H enc _ => topEdits_lifted os started H enc)
theorem topEdits_card : Rows.TopEditsCardSaid :=
  Claim7.holds_tied_plain_at .later [] [.data, .data, .data] true (true, "8f3451e4e2258320492d909d1fcf9a764036b858bba0bac0e6510474dacbd6eb") false
    topEdits_holds (fun _ h => by cases h) (by kernel_rfl) (fun _ h => by cases h) topEdits_row_tie rfl ⟨rfl, rfl⟩ j_main rfl
    (fun f fn hf hfn => by
      obtain rfl : f = 3 := Option.some.inj (j_fn.symm.trans hf) |>.symm
      obtain rfl : fn = Tryz.f3 := (Option.some.inj (Tryz.func3.symm.trans hfn)).symm
      exact ⟨j_looks.symm, fun j t ht => by
        rw [Tryz.params3] at ht
        have h3 : t = 9 ∨ t = 22 ∨ t = 23 ∨ t = 3 := by
          rcases j with _ | _ | _ | _ | _ | j <;> simp at ht <;> simp [← ht]
        rcases h3 with rfl | rfl | rfl | rfl
        · exact j_w9
        · exact j_w22
        · exact j_w23
        · exact j_w3⟩)
    j_goes.symm
end X
end Go.Proofs.YtebfahobllghnaaGreatDoor
