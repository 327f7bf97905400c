/-
  No cell of these rows narrows 'for every input' (looked for: loops, veiled, ifaces, maps, wideKeys, modest, calm, conditions, laid).
  DERIVED. THE GIVEN ROWS OF THIS SEAT. 2 by the template 'for every input the law returns true; each argument reads behind the call as it read before'; 0 by the template 'total and deterministic' (their statements: YtcfdebjhikahfaaTotals.lean).
  GIVEN WITH THE SEED: the statements are not yours to turn. If you find one false, say at which input.
  Laid BY PROGRAM, IN A SANDBOX (cutbox-rows.mjs): the forced cells as the released guide's own fill.sh prints them over the translation 5a8e8e3597158a09… (all of the seat's roots in one cut). By AI agents, Wed Nov 11 2026. No macro, syntax, notation, axiom, sorry.
-/
import Derived.Test.YtcfdebjhikahfaaChecked
import GoSem.Claim
import GoSem.ClaimJoined
import GoSem.ClaimMapViews
import Derived.JoinedTies
import Derived.KernelRfl
namespace Go.Proofs.Ytcfdebjhikahfaa
/- THE CELL 'sum', in the pinned program and in every row, IS THE sha256 OF THE DUMP (.gsa) THAT YtcfdebjhikahfaaProg.lean LOADS. Nothing in Lean hashes anything: it is a label: what it is worth is what the hold of that sum in a sandbox is worth. -/
noncomputable def Try.pinned : Pinned := { name := "ytcfdebjhikahfaa", sum := "5a8e8e3597158a09ab72bb56bf35bdc046212245e9e6facc7f719c41c858b3ef", checked := Try.checked }
namespace Rows
def none {H : Type} : Left H := { results := [], args := [] }

/-- 'gimletlaw16.RunPlain': WHATEVER THE INPUT: true; the input reads as it did. -/
def runPlainSpec : ChangeSpec := { name := "runPlain", fn := fun _ => fun
  | [d1, d2, d3, d4] => { results := [.lit (.bool true)], args := [d1, d2, d3, d4] }
  | _ => none }
def runPlainRow : OpenClaim := { program := "ytcfdebjhikahfaa", sum := "5a8e8e3597158a09ab72bb56bf35bdc046212245e9e6facc7f719c41c858b3ef", func := "gimlet/gimletlaw16.RunPlain", spec := "runPlain", unfollowed := true, recurses := true, apart := false }
def RunPlainSaid : Prop := runPlainRow.holds Try.pinned (OpenSpec.ofChange runPlainSpec)

/-- ITS FALSE NEIGHBOUR: 'it returns false'. Refute it at one input. -/
def runPlainWrong : ChangeSpec := { name := "runPlain", fn := fun _ => fun
  | [d1, d2, d3, d4] => { results := [.lit (.bool false)], args := [d1, d2, d3, d4] }
  | _ => none }
def RunPlainWrongFalsely : Prop := runPlainRow.holds Try.pinned (OpenSpec.ofChange runPlainWrong)

/-- 'gimletlaw16.RunRepeat': WHATEVER THE INPUT: true; the input reads as it did. -/
def runRepeatSpec : ChangeSpec := { name := "runRepeat", fn := fun _ => fun
  | [d1, d2, d3, d4, d5, d6, d7] => { results := [.lit (.bool true)], args := [d1, d2, d3, d4, d5, d6, d7] }
  | _ => none }
def runRepeatRow : OpenClaim := { program := "ytcfdebjhikahfaa", sum := "5a8e8e3597158a09ab72bb56bf35bdc046212245e9e6facc7f719c41c858b3ef", func := "gimlet/gimletlaw16.RunRepeat", spec := "runRepeat", unfollowed := true, recurses := true, apart := false }
def RunRepeatSaid : Prop := runRepeatRow.holds Try.pinned (OpenSpec.ofChange runRepeatSpec)

/-- ITS FALSE NEIGHBOUR: 'it returns false'. Refute it at one input. -/
def runRepeatWrong : ChangeSpec := { name := "runRepeat", fn := fun _ => fun
  | [d1, d2, d3, d4, d5, d6, d7] => { results := [.lit (.bool false)], args := [d1, d2, d3, d4, d5, d6, d7] }
  | _ => none }
def RunRepeatWrongFalsely : Prop := runRepeatRow.holds Try.pinned (OpenSpec.ofChange runRepeatWrong)

/- THE SECOND FORM. 'bulk': how many values and letters a reading holds, each counted each time it is reached (what is shared counts as often as it is met; a slice's spare places count too). A statement '..UptoSaid' is the law's where the arguments, and the package variables that the reading takes, are together of bulk at most 1048576: NARROWER than '..Said'. Prove '..Said' where nothing that the law and all that it calls make is longer than what came in: it says more and counts as full. Else prove '..UptoSaid'. A law counts once. -/
mutual
def uptoBulk {H : Type} : DataW H → Nat
  | .lit (.string bytes) => bytes.length + 1
  | .lit _ => 1
  | .nil => 1
  | .ptr d => uptoBulk d + 1
  | .slice elems spare => uptoBulkAll elems + uptoBulkAll spare + 1
  | .agg parts => uptoBulkAll parts + 1
  | .iface _ d => uptoBulk d + 1
  | .map entries => uptoBulkEntries entries + 1
  | .held _ => 1
def uptoBulkAll {H : Type} : List (DataW H) → Nat
  | [] => 0
  | d :: r => uptoBulk d + uptoBulkAll r
def uptoBulkEntries {H : Type} : List (Lit × DataW H) → Nat
  | [] => 0
  | x :: r => uptoBulkEntry x + uptoBulkEntries r
def uptoBulkEntry {H : Type} : Lit × DataW H → Nat
  | (.string bytes, d) => bytes.length + uptoBulk d + 1
  | (_, d) => uptoBulk d + 1
 end
def uptoSmall : (H : Type) → List (DataW H) → Bool := fun _ ds => decide (uptoBulkAll ds ≤ 1048576)
def OpenSpec.upto (s : _root_.Go.ChangeSpec) : _root_.Go.OpenSpec := { _root_.Go.OpenSpec.ofChange s with cond := some uptoSmall }

/-- 'gimletlaw16.RunPlain', WHERE WHAT IT READS IS OF BULK AT MOST 1048576: true; the input reads as it did. -/
def runPlainUptoRow : OpenClaim := { program := "ytcfdebjhikahfaa", sum := "5a8e8e3597158a09ab72bb56bf35bdc046212245e9e6facc7f719c41c858b3ef", func := "gimlet/gimletlaw16.RunPlain", spec := "runPlain", unfollowed := true, recurses := true, apart := false, narrowed := true }
def RunPlainUptoSaid : Prop := runPlainUptoRow.holds Try.pinned (OpenSpec.upto runPlainSpec)

/-- 'gimletlaw16.RunRepeat', WHERE WHAT IT READS IS OF BULK AT MOST 1048576: true; the input reads as it did. -/
def runRepeatUptoRow : OpenClaim := { program := "ytcfdebjhikahfaa", sum := "5a8e8e3597158a09ab72bb56bf35bdc046212245e9e6facc7f719c41c858b3ef", func := "gimlet/gimletlaw16.RunRepeat", spec := "runRepeat", unfollowed := true, recurses := true, apart := false, narrowed := true }
def RunRepeatUptoSaid : Prop := runRepeatUptoRow.holds Try.pinned (OpenSpec.upto runRepeatSpec)

end Rows
end Go.Proofs.Ytcfdebjhikahfaa
