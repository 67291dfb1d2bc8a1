/-
  No cell of these rows narrows 'for every input' (looked for: loops, veiled, ifaces, maps, wideKeys, modest, calm, conditions, laid).
  DERIVED. THE GIVEN ROWS OF THIS SEAT. 6 by the template 'for every input the law returns true; each argument reads behind the call as it read before'; 0 by the template 'total and deterministic' (their statements: YtdngjneihjhnkaaTotals.lean).
  GIVEN WITH THE SEED: the statements are not yours to turn. If you find one false, say at which input.
  Laid BY PROGRAM, IN A SANDBOX (cutbox-rows.mjs): the forced cells as the released guide's own fill.sh prints them over the translation 23c376f1a0be426a… (all of the seat's roots in one cut). By AI agents, Wed Nov 11 2026. No macro, syntax, notation, axiom, sorry.
-/
import Derived.Test.YtdngjneihjhnkaaChecked
import GoSem.Claim
import GoSem.ClaimJoined
import GoSem.ClaimMapViews
import Derived.JoinedTies
import Derived.KernelRfl
namespace Go.Proofs.Ytdngjneihjhnkaa
/- THE CELL 'sum', in the pinned program and in every row, IS THE sha256 OF THE DUMP (.gsa) THAT YtdngjneihjhnkaaProg.lean LOADS. Nothing in Lean hashes anything: it is a label: what it is worth is what the hold of that sum in a sandbox is worth. -/
noncomputable def Try.pinned : Pinned := { name := "ytdngjneihjhnkaa", sum := "23c376f1a0be426a8836957f1294ff350a7f86c3efdffe4cf2fc3c7e45b956fe", checked := Try.checked }
namespace Rows
def none {H : Type} : Left H := { results := [], args := [] }

/-- 'oxbowlaw01.TextPoints': WHATEVER THE INPUT: true; the input reads as it did. -/
def textPointsSpec : ChangeSpec := { name := "textPoints", fn := fun _ => fun
  | [d] => { results := [.lit (.bool true)], args := [d] }
  | _ => none }
def textPointsRow : OpenClaim := { program := "ytdngjneihjhnkaa", sum := "23c376f1a0be426a8836957f1294ff350a7f86c3efdffe4cf2fc3c7e45b956fe", func := "oxbow/oxbowlaw01.TextPoints", spec := "textPoints", inPlace := ["internal/bytealg.abigen_runtime_cmpstring"], apart := false }
def TextPointsSaid : Prop := textPointsRow.holds Try.pinned (OpenSpec.ofChange textPointsSpec)

/-- ITS FALSE NEIGHBOUR: 'it returns false'. Refute it at one input. -/
def textPointsWrong : ChangeSpec := { name := "textPoints", fn := fun _ => fun
  | [d] => { results := [.lit (.bool false)], args := [d] }
  | _ => none }
def TextPointsWrongFalsely : Prop := textPointsRow.holds Try.pinned (OpenSpec.ofChange textPointsWrong)

/-- 'oxbowlaw01.TextTexts': WHATEVER THE INPUT: true; the input reads as it did. -/
def textTextsSpec : ChangeSpec := { name := "textTexts", fn := fun _ => fun
  | [d] => { results := [.lit (.bool true)], args := [d] }
  | _ => none }
def textTextsRow : OpenClaim := { program := "ytdngjneihjhnkaa", sum := "23c376f1a0be426a8836957f1294ff350a7f86c3efdffe4cf2fc3c7e45b956fe", func := "oxbow/oxbowlaw01.TextTexts", spec := "textTexts", inPlace := ["internal/bytealg.abigen_runtime_cmpstring"], apart := false }
def TextTextsSaid : Prop := textTextsRow.holds Try.pinned (OpenSpec.ofChange textTextsSpec)

/-- ITS FALSE NEIGHBOUR: 'it returns false'. Refute it at one input. -/
def textTextsWrong : ChangeSpec := { name := "textTexts", fn := fun _ => fun
  | [d] => { results := [.lit (.bool false)], args := [d] }
  | _ => none }
def TextTextsWrongFalsely : Prop := textTextsRow.holds Try.pinned (OpenSpec.ofChange textTextsWrong)

/-- 'oxbowlaw01.TextCuts': WHATEVER THE INPUT: true; the input reads as it did. -/
def textCutsSpec : ChangeSpec := { name := "textCuts", fn := fun _ => fun
  | [d1, d2, d3] => { results := [.lit (.bool true)], args := [d1, d2, d3] }
  | _ => none }
def textCutsRow : OpenClaim := { program := "ytdngjneihjhnkaa", sum := "23c376f1a0be426a8836957f1294ff350a7f86c3efdffe4cf2fc3c7e45b956fe", func := "oxbow/oxbowlaw01.TextCuts", spec := "textCuts", inPlace := ["internal/bytealg.abigen_runtime_cmpstring"], apart := false }
def TextCutsSaid : Prop := textCutsRow.holds Try.pinned (OpenSpec.ofChange textCutsSpec)

/-- ITS FALSE NEIGHBOUR: 'it returns false'. Refute it at one input. -/
def textCutsWrong : ChangeSpec := { name := "textCuts", fn := fun _ => fun
  | [d1, d2, d3] => { results := [.lit (.bool false)], args := [d1, d2, d3] }
  | _ => none }
def TextCutsWrongFalsely : Prop := textCutsRow.holds Try.pinned (OpenSpec.ofChange textCutsWrong)

/-- 'oxbowlaw01.TextCompares': WHATEVER THE INPUT: true; the input reads as it did. -/
def textComparesSpec : ChangeSpec := { name := "textCompares", fn := fun _ => fun
  | [d1, d2] => { results := [.lit (.bool true)], args := [d1, d2] }
  | _ => none }
def textComparesRow : OpenClaim := { program := "ytdngjneihjhnkaa", sum := "23c376f1a0be426a8836957f1294ff350a7f86c3efdffe4cf2fc3c7e45b956fe", func := "oxbow/oxbowlaw01.TextCompares", spec := "textCompares", inPlace := ["internal/bytealg.abigen_runtime_cmpstring"], apart := false }
def TextComparesSaid : Prop := textComparesRow.holds Try.pinned (OpenSpec.ofChange textComparesSpec)

/-- ITS FALSE NEIGHBOUR: 'it returns false'. Refute it at one input. -/
def textComparesWrong : ChangeSpec := { name := "textCompares", fn := fun _ => fun
  | [d1, d2] => { results := [.lit (.bool false)], args := [d1, d2] }
  | _ => none }
def TextComparesWrongFalsely : Prop := textComparesRow.holds Try.pinned (OpenSpec.ofChange textComparesWrong)

/-- 'oxbowlaw01.TextBack': WHATEVER THE INPUT: true; the input reads as it did. -/
def textBackSpec : ChangeSpec := { name := "textBack", fn := fun _ => fun
  | [d1, d2] => { results := [.lit (.bool true)], args := [d1, d2] }
  | _ => none }
def textBackRow : OpenClaim := { program := "ytdngjneihjhnkaa", sum := "23c376f1a0be426a8836957f1294ff350a7f86c3efdffe4cf2fc3c7e45b956fe", func := "oxbow/oxbowlaw01.TextBack", spec := "textBack", inPlace := ["internal/bytealg.abigen_runtime_cmpstring"], apart := false }
def TextBackSaid : Prop := textBackRow.holds Try.pinned (OpenSpec.ofChange textBackSpec)

/-- ITS FALSE NEIGHBOUR: 'it returns false'. Refute it at one input. -/
def textBackWrong : ChangeSpec := { name := "textBack", fn := fun _ => fun
  | [d1, d2] => { results := [.lit (.bool false)], args := [d1, d2] }
  | _ => none }
def TextBackWrongFalsely : Prop := textBackRow.holds Try.pinned (OpenSpec.ofChange textBackWrong)

/-- 'oxbowlaw01.TextOrder': WHATEVER THE INPUT: true; the input reads as it did. -/
def textOrderSpec : ChangeSpec := { name := "textOrder", fn := fun _ => fun
  | [d1, d2] => { results := [.lit (.bool true)], args := [d1, d2] }
  | _ => none }
def textOrderRow : OpenClaim := { program := "ytdngjneihjhnkaa", sum := "23c376f1a0be426a8836957f1294ff350a7f86c3efdffe4cf2fc3c7e45b956fe", func := "oxbow/oxbowlaw01.TextOrder", spec := "textOrder", inPlace := ["internal/bytealg.abigen_runtime_cmpstring"], apart := false }
def TextOrderSaid : Prop := textOrderRow.holds Try.pinned (OpenSpec.ofChange textOrderSpec)

/-- ITS FALSE NEIGHBOUR: 'it returns false'. Refute it at one input. -/
def textOrderWrong : ChangeSpec := { name := "textOrder", fn := fun _ => fun
  | [d1, d2] => { results := [.lit (.bool false)], args := [d1, d2] }
  | _ => none }
def TextOrderWrongFalsely : Prop := textOrderRow.holds Try.pinned (OpenSpec.ofChange textOrderWrong)

/- THE SECOND FORM. 'bulk': how many values and letters a reading holds, each counted each time it is reached (what is shared counts as often as it is met; a slice's spare places count too). A statement '..UptoSaid' is the law's where the arguments, and the package variables that the reading takes, are together of bulk at most 1048576: NARROWER than '..Said'. Prove '..Said' where nothing that the law and all that it calls make is longer than what came in: it says more and counts as full. Else prove '..UptoSaid'. A law counts once. -/
mutual
def uptoBulk {H : Type} : DataW H → Nat
  | .lit (.string bytes) => bytes.length + 1
  | .lit _ => 1
  | .nil => 1
  | .ptr d => uptoBulk d + 1
  | .slice elems spare => uptoBulkAll elems + uptoBulkAll spare + 1
  | .agg parts => uptoBulkAll parts + 1
  | .iface _ d => uptoBulk d + 1
  | .map entries => uptoBulkEntries entries + 1
  | .held _ => 1
def uptoBulkAll {H : Type} : List (DataW H) → Nat
  | [] => 0
  | d :: r => uptoBulk d + uptoBulkAll r
def uptoBulkEntries {H : Type} : List (Lit × DataW H) → Nat
  | [] => 0
  | x :: r => uptoBulkEntry x + uptoBulkEntries r
def uptoBulkEntry {H : Type} : Lit × DataW H → Nat
  | (.string bytes, d) => bytes.length + uptoBulk d + 1
  | (_, d) => uptoBulk d + 1
 end
def uptoSmall : (H : Type) → List (DataW H) → Bool := fun _ ds => decide (uptoBulkAll ds ≤ 1048576)
def OpenSpec.upto (s : _root_.Go.ChangeSpec) : _root_.Go.OpenSpec := { _root_.Go.OpenSpec.ofChange s with cond := some uptoSmall }

/-- 'oxbowlaw01.TextPoints', WHERE WHAT IT READS IS OF BULK AT MOST 1048576: true; the input reads as it did. -/
def textPointsUptoRow : OpenClaim := { program := "ytdngjneihjhnkaa", sum := "23c376f1a0be426a8836957f1294ff350a7f86c3efdffe4cf2fc3c7e45b956fe", func := "oxbow/oxbowlaw01.TextPoints", spec := "textPoints", inPlace := ["internal/bytealg.abigen_runtime_cmpstring"], apart := false, narrowed := true }
def TextPointsUptoSaid : Prop := textPointsUptoRow.holds Try.pinned (OpenSpec.upto textPointsSpec)

/-- 'oxbowlaw01.TextTexts', WHERE WHAT IT READS IS OF BULK AT MOST 1048576: true; the input reads as it did. -/
def textTextsUptoRow : OpenClaim := { program := "ytdngjneihjhnkaa", sum := "23c376f1a0be426a8836957f1294ff350a7f86c3efdffe4cf2fc3c7e45b956fe", func := "oxbow/oxbowlaw01.TextTexts", spec := "textTexts", inPlace := ["internal/bytealg.abigen_runtime_cmpstring"], apart := false, narrowed := true }
def TextTextsUptoSaid : Prop := textTextsUptoRow.holds Try.pinned (OpenSpec.upto textTextsSpec)

/-- 'oxbowlaw01.TextCuts', WHERE WHAT IT READS IS OF BULK AT MOST 1048576: true; the input reads as it did. -/
def textCutsUptoRow : OpenClaim := { program := "ytdngjneihjhnkaa", sum := "23c376f1a0be426a8836957f1294ff350a7f86c3efdffe4cf2fc3c7e45b956fe", func := "oxbow/oxbowlaw01.TextCuts", spec := "textCuts", inPlace := ["internal/bytealg.abigen_runtime_cmpstring"], apart := false, narrowed := true }
def TextCutsUptoSaid : Prop := textCutsUptoRow.holds Try.pinned (OpenSpec.upto textCutsSpec)

/-- 'oxbowlaw01.TextCompares', WHERE WHAT IT READS IS OF BULK AT MOST 1048576: true; the input reads as it did. -/
def textComparesUptoRow : OpenClaim := { program := "ytdngjneihjhnkaa", sum := "23c376f1a0be426a8836957f1294ff350a7f86c3efdffe4cf2fc3c7e45b956fe", func := "oxbow/oxbowlaw01.TextCompares", spec := "textCompares", inPlace := ["internal/bytealg.abigen_runtime_cmpstring"], apart := false, narrowed := true }
def TextComparesUptoSaid : Prop := textComparesUptoRow.holds Try.pinned (OpenSpec.upto textComparesSpec)

/-- 'oxbowlaw01.TextBack', WHERE WHAT IT READS IS OF BULK AT MOST 1048576: true; the input reads as it did. -/
def textBackUptoRow : OpenClaim := { program := "ytdngjneihjhnkaa", sum := "23c376f1a0be426a8836957f1294ff350a7f86c3efdffe4cf2fc3c7e45b956fe", func := "oxbow/oxbowlaw01.TextBack", spec := "textBack", inPlace := ["internal/bytealg.abigen_runtime_cmpstring"], apart := false, narrowed := true }
def TextBackUptoSaid : Prop := textBackUptoRow.holds Try.pinned (OpenSpec.upto textBackSpec)

/-- 'oxbowlaw01.TextOrder', WHERE WHAT IT READS IS OF BULK AT MOST 1048576: true; the input reads as it did. -/
def textOrderUptoRow : OpenClaim := { program := "ytdngjneihjhnkaa", sum := "23c376f1a0be426a8836957f1294ff350a7f86c3efdffe4cf2fc3c7e45b956fe", func := "oxbow/oxbowlaw01.TextOrder", spec := "textOrder", inPlace := ["internal/bytealg.abigen_runtime_cmpstring"], apart := false, narrowed := true }
def TextOrderUptoSaid : Prop := textOrderUptoRow.holds Try.pinned (OpenSpec.upto textOrderSpec)

end Rows
end Go.Proofs.Ytdngjneihjhnkaa
