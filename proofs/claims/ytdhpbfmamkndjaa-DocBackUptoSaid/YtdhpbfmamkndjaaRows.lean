/-
  No cell of these rows narrows 'for every input' (looked for: loops, veiled, ifaces, maps, wideKeys, modest, calm, conditions, laid).
  DERIVED. THE GIVEN ROWS OF THIS SEAT. 17 by the template 'for every input the law returns true; each argument reads behind the call as it read before'; 0 by the template 'total and deterministic' (their statements: YtdhpbfmamkndjaaTotals.lean).
  GIVEN WITH THE SEED: the statements are not yours to turn. If you find one false, say at which input.
  Laid BY PROGRAM, IN A SANDBOX (cutbox-rows.mjs): the forced cells as the released guide's own fill.sh prints them over the translation 2d09e51e312670d3… (all of the seat's roots in one cut). By AI agents, Wed Nov 11 2026. No macro, syntax, notation, axiom, sorry.
-/
import Derived.Test.YtdhpbfmamkndjaaChecked
import GoSem.Claim
import GoSem.ClaimJoined
import GoSem.ClaimMapViews
import Derived.JoinedTies
import Derived.KernelRfl
namespace Go.Proofs.Ytdhpbfmamkndjaa
/- THE CELL 'sum', in the pinned program and in every row, IS THE sha256 OF THE DUMP (.gsa) THAT YtdhpbfmamkndjaaProg.lean LOADS. Nothing in Lean hashes anything: it is a label: what it is worth is what the hold of that sum in a sandbox is worth. -/
noncomputable def Try.pinned : Pinned := { name := "ytdhpbfmamkndjaa", sum := "2d09e51e312670d3e2ca0c69b079e62fdb46466820e17a0c741fec53fc200b4a", checked := Try.checked }
namespace Rows
def none {H : Type} : Left H := { results := [], args := [] }

/-- 'oxbowlaw24.TraceChecks': WHATEVER THE INPUT: true; the input reads as it did. -/
def traceChecksSpec : ChangeSpec := { name := "traceChecks", fn := fun _ => fun
  | [d] => { results := [.lit (.bool true)], args := [d] }
  | _ => none }
def traceChecksRow : OpenClaim := { program := "ytdhpbfmamkndjaa", sum := "2d09e51e312670d3e2ca0c69b079e62fdb46466820e17a0c741fec53fc200b4a", func := "oxbow/oxbowlaw24.TraceChecks", spec := "traceChecks", unfollowed := true, recurses := true, plainKeys := false, apart := false }
def TraceChecksSaid : Prop := traceChecksRow.holds Try.pinned (OpenSpec.ofChange traceChecksSpec)

/-- ITS FALSE NEIGHBOUR: 'it returns false'. Refute it at one input. -/
def traceChecksWrong : ChangeSpec := { name := "traceChecks", fn := fun _ => fun
  | [d] => { results := [.lit (.bool false)], args := [d] }
  | _ => none }
def TraceChecksWrongFalsely : Prop := traceChecksRow.holds Try.pinned (OpenSpec.ofChange traceChecksWrong)

/-- 'oxbowlaw24.TraceParts': WHATEVER THE INPUT: true; the input reads as it did. -/
def tracePartsSpec : ChangeSpec := { name := "traceParts", fn := fun _ => fun
  | [d1, d2] => { results := [.lit (.bool true)], args := [d1, d2] }
  | _ => none }
def tracePartsRow : OpenClaim := { program := "ytdhpbfmamkndjaa", sum := "2d09e51e312670d3e2ca0c69b079e62fdb46466820e17a0c741fec53fc200b4a", func := "oxbow/oxbowlaw24.TraceParts", spec := "traceParts", unfollowed := true, recurses := true, plainKeys := false, apart := false }
def TracePartsSaid : Prop := tracePartsRow.holds Try.pinned (OpenSpec.ofChange tracePartsSpec)

/-- ITS FALSE NEIGHBOUR: 'it returns false'. Refute it at one input. -/
def tracePartsWrong : ChangeSpec := { name := "traceParts", fn := fun _ => fun
  | [d1, d2] => { results := [.lit (.bool false)], args := [d1, d2] }
  | _ => none }
def TracePartsWrongFalsely : Prop := tracePartsRow.holds Try.pinned (OpenSpec.ofChange tracePartsWrong)

/-- 'oxbowlaw12.DocChecks': WHATEVER THE INPUT: true; the input reads as it did. -/
def docChecksSpec : ChangeSpec := { name := "docChecks", fn := fun _ => fun
  | [d1, d2] => { results := [.lit (.bool true)], args := [d1, d2] }
  | _ => none }
def docChecksRow : OpenClaim := { program := "ytdhpbfmamkndjaa", sum := "2d09e51e312670d3e2ca0c69b079e62fdb46466820e17a0c741fec53fc200b4a", func := "oxbow/oxbowlaw12.DocChecks", spec := "docChecks", plainKeys := false, apart := false }
def DocChecksSaid : Prop := docChecksRow.holds Try.pinned (OpenSpec.ofChange docChecksSpec)

/-- ITS FALSE NEIGHBOUR: 'it returns false'. Refute it at one input. -/
def docChecksWrong : ChangeSpec := { name := "docChecks", fn := fun _ => fun
  | [d1, d2] => { results := [.lit (.bool false)], args := [d1, d2] }
  | _ => none }
def DocChecksWrongFalsely : Prop := docChecksRow.holds Try.pinned (OpenSpec.ofChange docChecksWrong)

/-- 'oxbowlaw12.DocApplies': WHATEVER THE INPUT: true; the input reads as it did. -/
def docAppliesSpec : ChangeSpec := { name := "docApplies", fn := fun _ => fun
  | [d1, d2, d3] => { results := [.lit (.bool true)], args := [d1, d2, d3] }
  | _ => none }
def docAppliesRow : OpenClaim := { program := "ytdhpbfmamkndjaa", sum := "2d09e51e312670d3e2ca0c69b079e62fdb46466820e17a0c741fec53fc200b4a", func := "oxbow/oxbowlaw12.DocApplies", spec := "docApplies", plainKeys := false, apart := false }
def DocAppliesSaid : Prop := docAppliesRow.holds Try.pinned (OpenSpec.ofChange docAppliesSpec)

/-- ITS FALSE NEIGHBOUR: 'it returns false'. Refute it at one input. -/
def docAppliesWrong : ChangeSpec := { name := "docApplies", fn := fun _ => fun
  | [d1, d2, d3] => { results := [.lit (.bool false)], args := [d1, d2, d3] }
  | _ => none }
def DocAppliesWrongFalsely : Prop := docAppliesRow.holds Try.pinned (OpenSpec.ofChange docAppliesWrong)

/-- 'oxbowlaw12.DocKeeps': WHATEVER THE INPUT: true; the input reads as it did. -/
def docKeepsSpec : ChangeSpec := { name := "docKeeps", fn := fun _ => fun
  | [d1, d2, d3] => { results := [.lit (.bool true)], args := [d1, d2, d3] }
  | _ => none }
def docKeepsRow : OpenClaim := { program := "ytdhpbfmamkndjaa", sum := "2d09e51e312670d3e2ca0c69b079e62fdb46466820e17a0c741fec53fc200b4a", func := "oxbow/oxbowlaw12.DocKeeps", spec := "docKeeps", plainKeys := false, apart := false }
def DocKeepsSaid : Prop := docKeepsRow.holds Try.pinned (OpenSpec.ofChange docKeepsSpec)

/-- ITS FALSE NEIGHBOUR: 'it returns false'. Refute it at one input. -/
def docKeepsWrong : ChangeSpec := { name := "docKeeps", fn := fun _ => fun
  | [d1, d2, d3] => { results := [.lit (.bool false)], args := [d1, d2, d3] }
  | _ => none }
def DocKeepsWrongFalsely : Prop := docKeepsRow.holds Try.pinned (OpenSpec.ofChange docKeepsWrong)

/-- 'oxbowlaw12.DocTexts': WHATEVER THE INPUT: true; the input reads as it did. -/
def docTextsSpec : ChangeSpec := { name := "docTexts", fn := fun _ => fun
  | [d1, d2, d3] => { results := [.lit (.bool true)], args := [d1, d2, d3] }
  | _ => none }
def docTextsRow : OpenClaim := { program := "ytdhpbfmamkndjaa", sum := "2d09e51e312670d3e2ca0c69b079e62fdb46466820e17a0c741fec53fc200b4a", func := "oxbow/oxbowlaw12.DocTexts", spec := "docTexts", plainKeys := false, apart := false }
def DocTextsSaid : Prop := docTextsRow.holds Try.pinned (OpenSpec.ofChange docTextsSpec)

/-- ITS FALSE NEIGHBOUR: 'it returns false'. Refute it at one input. -/
def docTextsWrong : ChangeSpec := { name := "docTexts", fn := fun _ => fun
  | [d1, d2, d3] => { results := [.lit (.bool false)], args := [d1, d2, d3] }
  | _ => none }
def DocTextsWrongFalsely : Prop := docTextsRow.holds Try.pinned (OpenSpec.ofChange docTextsWrong)

/-- 'oxbowlaw12.DocParts': WHATEVER THE INPUT: true; the input reads as it did. -/
def docPartsSpec : ChangeSpec := { name := "docParts", fn := fun _ => fun
  | [d1, d2, d3] => { results := [.lit (.bool true)], args := [d1, d2, d3] }
  | _ => none }
def docPartsRow : OpenClaim := { program := "ytdhpbfmamkndjaa", sum := "2d09e51e312670d3e2ca0c69b079e62fdb46466820e17a0c741fec53fc200b4a", func := "oxbow/oxbowlaw12.DocParts", spec := "docParts", plainKeys := false, apart := false }
def DocPartsSaid : Prop := docPartsRow.holds Try.pinned (OpenSpec.ofChange docPartsSpec)

/-- ITS FALSE NEIGHBOUR: 'it returns false'. Refute it at one input. -/
def docPartsWrong : ChangeSpec := { name := "docParts", fn := fun _ => fun
  | [d1, d2, d3] => { results := [.lit (.bool false)], args := [d1, d2, d3] }
  | _ => none }
def DocPartsWrongFalsely : Prop := docPartsRow.holds Try.pinned (OpenSpec.ofChange docPartsWrong)

/-- 'oxbowlaw12.DocBack': WHATEVER THE INPUT: true; the input reads as it did. -/
def docBackSpec : ChangeSpec := { name := "docBack", fn := fun _ => fun
  | [d1, d2] => { results := [.lit (.bool true)], args := [d1, d2] }
  | _ => none }
def docBackRow : OpenClaim := { program := "ytdhpbfmamkndjaa", sum := "2d09e51e312670d3e2ca0c69b079e62fdb46466820e17a0c741fec53fc200b4a", func := "oxbow/oxbowlaw12.DocBack", spec := "docBack", plainKeys := false, apart := false }
def DocBackSaid : Prop := docBackRow.holds Try.pinned (OpenSpec.ofChange docBackSpec)

/-- ITS FALSE NEIGHBOUR: 'it returns false'. Refute it at one input. -/
def docBackWrong : ChangeSpec := { name := "docBack", fn := fun _ => fun
  | [d1, d2] => { results := [.lit (.bool false)], args := [d1, d2] }
  | _ => none }
def DocBackWrongFalsely : Prop := docBackRow.holds Try.pinned (OpenSpec.ofChange docBackWrong)

/-- 'oxbowlaw24.TraceEdits': WHATEVER THE INPUT: true; the input reads as it did. -/
def traceEditsSpec : ChangeSpec := { name := "traceEdits", fn := fun _ => fun
  | [d1, d2] => { results := [.lit (.bool true)], args := [d1, d2] }
  | _ => none }
def traceEditsRow : OpenClaim := { program := "ytdhpbfmamkndjaa", sum := "2d09e51e312670d3e2ca0c69b079e62fdb46466820e17a0c741fec53fc200b4a", func := "oxbow/oxbowlaw24.TraceEdits", spec := "traceEdits", unfollowed := true, recurses := true, plainKeys := false, apart := false }
def TraceEditsSaid : Prop := traceEditsRow.holds Try.pinned (OpenSpec.ofChange traceEditsSpec)

/-- ITS FALSE NEIGHBOUR: 'it returns false'. Refute it at one input. -/
def traceEditsWrong : ChangeSpec := { name := "traceEdits", fn := fun _ => fun
  | [d1, d2] => { results := [.lit (.bool false)], args := [d1, d2] }
  | _ => none }
def TraceEditsWrongFalsely : Prop := traceEditsRow.holds Try.pinned (OpenSpec.ofChange traceEditsWrong)

/-- 'oxbowlaw14.MergeDocs': WHATEVER THE INPUT: true; the input reads as it did. -/
def mergeDocsSpec : ChangeSpec := { name := "mergeDocs", fn := fun _ => fun
  | [d] => { results := [.lit (.bool true)], args := [d] }
  | _ => none }
def mergeDocsRow : OpenClaim := { program := "ytdhpbfmamkndjaa", sum := "2d09e51e312670d3e2ca0c69b079e62fdb46466820e17a0c741fec53fc200b4a", func := "oxbow/oxbowlaw14.MergeDocs", spec := "mergeDocs", inPlace := ["internal/bytealg.abigen_runtime_cmpstring"], unfollowed := true, recurses := true, plainKeys := false, apart := false }
def MergeDocsSaid : Prop := mergeDocsRow.holds Try.pinned (OpenSpec.ofChange mergeDocsSpec)

/-- ITS FALSE NEIGHBOUR: 'it returns false'. Refute it at one input. -/
def mergeDocsWrong : ChangeSpec := { name := "mergeDocs", fn := fun _ => fun
  | [d] => { results := [.lit (.bool false)], args := [d] }
  | _ => none }
def MergeDocsWrongFalsely : Prop := mergeDocsRow.holds Try.pinned (OpenSpec.ofChange mergeDocsWrong)

/-- 'oxbowlaw14.MergeDeltas': WHATEVER THE INPUT: true; the input reads as it did. -/
def mergeDeltasSpec : ChangeSpec := { name := "mergeDeltas", fn := fun _ => fun
  | [d1, d2] => { results := [.lit (.bool true)], args := [d1, d2] }
  | _ => none }
def mergeDeltasRow : OpenClaim := { program := "ytdhpbfmamkndjaa", sum := "2d09e51e312670d3e2ca0c69b079e62fdb46466820e17a0c741fec53fc200b4a", func := "oxbow/oxbowlaw14.MergeDeltas", spec := "mergeDeltas", inPlace := ["internal/bytealg.abigen_runtime_cmpstring"], unfollowed := true, recurses := true, plainKeys := false, apart := false }
def MergeDeltasSaid : Prop := mergeDeltasRow.holds Try.pinned (OpenSpec.ofChange mergeDeltasSpec)

/-- ITS FALSE NEIGHBOUR: 'it returns false'. Refute it at one input. -/
def mergeDeltasWrong : ChangeSpec := { name := "mergeDeltas", fn := fun _ => fun
  | [d1, d2] => { results := [.lit (.bool false)], args := [d1, d2] }
  | _ => none }
def MergeDeltasWrongFalsely : Prop := mergeDeltasRow.holds Try.pinned (OpenSpec.ofChange mergeDeltasWrong)

/-- 'oxbowlaw14.MergeEven': WHATEVER THE INPUT: true; the input reads as it did. -/
def mergeEvenSpec : ChangeSpec := { name := "mergeEven", fn := fun _ => fun
  | [d] => { results := [.lit (.bool true)], args := [d] }
  | _ => none }
def mergeEvenRow : OpenClaim := { program := "ytdhpbfmamkndjaa", sum := "2d09e51e312670d3e2ca0c69b079e62fdb46466820e17a0c741fec53fc200b4a", func := "oxbow/oxbowlaw14.MergeEven", spec := "mergeEven", inPlace := ["internal/bytealg.abigen_runtime_cmpstring"], unfollowed := true, recurses := true, plainKeys := false, apart := false }
def MergeEvenSaid : Prop := mergeEvenRow.holds Try.pinned (OpenSpec.ofChange mergeEvenSpec)

/-- ITS FALSE NEIGHBOUR: 'it returns false'. Refute it at one input. -/
def mergeEvenWrong : ChangeSpec := { name := "mergeEven", fn := fun _ => fun
  | [d] => { results := [.lit (.bool false)], args := [d] }
  | _ => none }
def MergeEvenWrongFalsely : Prop := mergeEvenRow.holds Try.pinned (OpenSpec.ofChange mergeEvenWrong)

/-- 'oxbowlaw14.MergeAlone': WHATEVER THE INPUT: true; the input reads as it did. -/
def mergeAloneSpec : ChangeSpec := { name := "mergeAlone", fn := fun _ => fun
  | [d] => { results := [.lit (.bool true)], args := [d] }
  | _ => none }
def mergeAloneRow : OpenClaim := { program := "ytdhpbfmamkndjaa", sum := "2d09e51e312670d3e2ca0c69b079e62fdb46466820e17a0c741fec53fc200b4a", func := "oxbow/oxbowlaw14.MergeAlone", spec := "mergeAlone", inPlace := ["internal/bytealg.abigen_runtime_cmpstring"], unfollowed := true, recurses := true, plainKeys := false, apart := false }
def MergeAloneSaid : Prop := mergeAloneRow.holds Try.pinned (OpenSpec.ofChange mergeAloneSpec)

/-- ITS FALSE NEIGHBOUR: 'it returns false'. Refute it at one input. -/
def mergeAloneWrong : ChangeSpec := { name := "mergeAlone", fn := fun _ => fun
  | [d] => { results := [.lit (.bool false)], args := [d] }
  | _ => none }
def MergeAloneWrongFalsely : Prop := mergeAloneRow.holds Try.pinned (OpenSpec.ofChange mergeAloneWrong)

/-- 'oxbowlaw14.MergeAtoms': WHATEVER THE INPUT: true; the input reads as it did. -/
def mergeAtomsSpec : ChangeSpec := { name := "mergeAtoms", fn := fun _ => fun
  | [d] => { results := [.lit (.bool true)], args := [d] }
  | _ => none }
def mergeAtomsRow : OpenClaim := { program := "ytdhpbfmamkndjaa", sum := "2d09e51e312670d3e2ca0c69b079e62fdb46466820e17a0c741fec53fc200b4a", func := "oxbow/oxbowlaw14.MergeAtoms", spec := "mergeAtoms", inPlace := ["internal/bytealg.abigen_runtime_cmpstring"], unfollowed := true, recurses := true, plainKeys := false, apart := false }
def MergeAtomsSaid : Prop := mergeAtomsRow.holds Try.pinned (OpenSpec.ofChange mergeAtomsSpec)

/-- ITS FALSE NEIGHBOUR: 'it returns false'. Refute it at one input. -/
def mergeAtomsWrong : ChangeSpec := { name := "mergeAtoms", fn := fun _ => fun
  | [d] => { results := [.lit (.bool false)], args := [d] }
  | _ => none }
def MergeAtomsWrongFalsely : Prop := mergeAtomsRow.holds Try.pinned (OpenSpec.ofChange mergeAtomsWrong)

/-- 'oxbowlaw14.MergeStays': WHATEVER THE INPUT: true; the input reads as it did. -/
def mergeStaysSpec : ChangeSpec := { name := "mergeStays", fn := fun _ => fun
  | [d] => { results := [.lit (.bool true)], args := [d] }
  | _ => none }
def mergeStaysRow : OpenClaim := { program := "ytdhpbfmamkndjaa", sum := "2d09e51e312670d3e2ca0c69b079e62fdb46466820e17a0c741fec53fc200b4a", func := "oxbow/oxbowlaw14.MergeStays", spec := "mergeStays", inPlace := ["internal/bytealg.abigen_runtime_cmpstring"], unfollowed := true, recurses := true, plainKeys := false, apart := false }
def MergeStaysSaid : Prop := mergeStaysRow.holds Try.pinned (OpenSpec.ofChange mergeStaysSpec)

/-- ITS FALSE NEIGHBOUR: 'it returns false'. Refute it at one input. -/
def mergeStaysWrong : ChangeSpec := { name := "mergeStays", fn := fun _ => fun
  | [d] => { results := [.lit (.bool false)], args := [d] }
  | _ => none }
def MergeStaysWrongFalsely : Prop := mergeStaysRow.holds Try.pinned (OpenSpec.ofChange mergeStaysWrong)

/-- 'oxbowlaw24.TraceMerges': WHATEVER THE INPUT: true; the input reads as it did. -/
def traceMergesSpec : ChangeSpec := { name := "traceMerges", fn := fun _ => fun
  | [d1, d2, d3, d4, d5] => { results := [.lit (.bool true)], args := [d1, d2, d3, d4, d5] }
  | _ => none }
def traceMergesRow : OpenClaim := { program := "ytdhpbfmamkndjaa", sum := "2d09e51e312670d3e2ca0c69b079e62fdb46466820e17a0c741fec53fc200b4a", func := "oxbow/oxbowlaw24.TraceMerges", spec := "traceMerges", inPlace := ["internal/bytealg.abigen_runtime_cmpstring"], unfollowed := true, recurses := true, plainKeys := false, apart := false }
def TraceMergesSaid : Prop := traceMergesRow.holds Try.pinned (OpenSpec.ofChange traceMergesSpec)

/-- ITS FALSE NEIGHBOUR: 'it returns false'. Refute it at one input. -/
def traceMergesWrong : ChangeSpec := { name := "traceMerges", fn := fun _ => fun
  | [d1, d2, d3, d4, d5] => { results := [.lit (.bool false)], args := [d1, d2, d3, d4, d5] }
  | _ => none }
def TraceMergesWrongFalsely : Prop := traceMergesRow.holds Try.pinned (OpenSpec.ofChange traceMergesWrong)

/-- 'oxbowlaw14.MergeLeads': WHATEVER THE INPUT: true; the input reads as it did. -/
def mergeLeadsSpec : ChangeSpec := { name := "mergeLeads", fn := fun _ => fun
  | [d] => { results := [.lit (.bool true)], args := [d] }
  | _ => none }
def mergeLeadsRow : OpenClaim := { program := "ytdhpbfmamkndjaa", sum := "2d09e51e312670d3e2ca0c69b079e62fdb46466820e17a0c741fec53fc200b4a", func := "oxbow/oxbowlaw14.MergeLeads", spec := "mergeLeads", inPlace := ["internal/bytealg.abigen_runtime_cmpstring"], unfollowed := true, recurses := true, plainKeys := false, apart := false }
def MergeLeadsSaid : Prop := mergeLeadsRow.holds Try.pinned (OpenSpec.ofChange mergeLeadsSpec)

/-- ITS FALSE NEIGHBOUR: 'it returns false'. Refute it at one input. -/
def mergeLeadsWrong : ChangeSpec := { name := "mergeLeads", fn := fun _ => fun
  | [d] => { results := [.lit (.bool false)], args := [d] }
  | _ => none }
def MergeLeadsWrongFalsely : Prop := mergeLeadsRow.holds Try.pinned (OpenSpec.ofChange mergeLeadsWrong)

/- THE SECOND FORM. 'bulk': how many values and letters a reading holds, each counted each time it is reached (what is shared counts as often as it is met; a slice's spare places count too). A statement '..UptoSaid' is the law's where the arguments, and the package variables that the reading takes, are together of bulk at most 1048576: NARROWER than '..Said'. Prove '..Said' where nothing that the law and all that it calls make is longer than what came in: it says more and counts as full. Else prove '..UptoSaid'. A law counts once. -/
mutual
def uptoBulk {H : Type} : DataW H → Nat
  | .lit (.string bytes) => bytes.length + 1
  | .lit _ => 1
  | .nil => 1
  | .ptr d => uptoBulk d + 1
  | .slice elems spare => uptoBulkAll elems + uptoBulkAll spare + 1
  | .agg parts => uptoBulkAll parts + 1
  | .iface _ d => uptoBulk d + 1
  | .map entries => uptoBulkEntries entries + 1
  | .held _ => 1
def uptoBulkAll {H : Type} : List (DataW H) → Nat
  | [] => 0
  | d :: r => uptoBulk d + uptoBulkAll r
def uptoBulkEntries {H : Type} : List (Lit × DataW H) → Nat
  | [] => 0
  | x :: r => uptoBulkEntry x + uptoBulkEntries r
def uptoBulkEntry {H : Type} : Lit × DataW H → Nat
  | (.string bytes, d) => bytes.length + uptoBulk d + 1
  | (_, d) => uptoBulk d + 1
 end
def uptoSmall : (H : Type) → List (DataW H) → Bool := fun _ ds => decide (uptoBulkAll ds ≤ 1048576)
def OpenSpec.upto (s : _root_.Go.ChangeSpec) : _root_.Go.OpenSpec := { _root_.Go.OpenSpec.ofChange s with cond := some uptoSmall }

/-- 'oxbowlaw24.TraceChecks', WHERE WHAT IT READS IS OF BULK AT MOST 1048576: true; the input reads as it did. -/
def traceChecksUptoRow : OpenClaim := { program := "ytdhpbfmamkndjaa", sum := "2d09e51e312670d3e2ca0c69b079e62fdb46466820e17a0c741fec53fc200b4a", func := "oxbow/oxbowlaw24.TraceChecks", spec := "traceChecks", unfollowed := true, recurses := true, plainKeys := false, apart := false, narrowed := true }
def TraceChecksUptoSaid : Prop := traceChecksUptoRow.holds Try.pinned (OpenSpec.upto traceChecksSpec)

/-- 'oxbowlaw24.TraceParts', WHERE WHAT IT READS IS OF BULK AT MOST 1048576: true; the input reads as it did. -/
def tracePartsUptoRow : OpenClaim := { program := "ytdhpbfmamkndjaa", sum := "2d09e51e312670d3e2ca0c69b079e62fdb46466820e17a0c741fec53fc200b4a", func := "oxbow/oxbowlaw24.TraceParts", spec := "traceParts", unfollowed := true, recurses := true, plainKeys := false, apart := false, narrowed := true }
def TracePartsUptoSaid : Prop := tracePartsUptoRow.holds Try.pinned (OpenSpec.upto tracePartsSpec)

/-- 'oxbowlaw12.DocChecks', WHERE WHAT IT READS IS OF BULK AT MOST 1048576: true; the input reads as it did. -/
def docChecksUptoRow : OpenClaim := { program := "ytdhpbfmamkndjaa", sum := "2d09e51e312670d3e2ca0c69b079e62fdb46466820e17a0c741fec53fc200b4a", func := "oxbow/oxbowlaw12.DocChecks", spec := "docChecks", plainKeys := false, apart := false, narrowed := true }
def DocChecksUptoSaid : Prop := docChecksUptoRow.holds Try.pinned (OpenSpec.upto docChecksSpec)

/-- 'oxbowlaw12.DocApplies', WHERE WHAT IT READS IS OF BULK AT MOST 1048576: true; the input reads as it did. -/
def docAppliesUptoRow : OpenClaim := { program := "ytdhpbfmamkndjaa", sum := "2d09e51e312670d3e2ca0c69b079e62fdb46466820e17a0c741fec53fc200b4a", func := "oxbow/oxbowlaw12.DocApplies", spec := "docApplies", plainKeys := false, apart := false, narrowed := true }
def DocAppliesUptoSaid : Prop := docAppliesUptoRow.holds Try.pinned (OpenSpec.upto docAppliesSpec)

/-- 'oxbowlaw12.DocKeeps', WHERE WHAT IT READS IS OF BULK AT MOST 1048576: true; the input reads as it did. -/
def docKeepsUptoRow : OpenClaim := { program := "ytdhpbfmamkndjaa", sum := "2d09e51e312670d3e2ca0c69b079e62fdb46466820e17a0c741fec53fc200b4a", func := "oxbow/oxbowlaw12.DocKeeps", spec := "docKeeps", plainKeys := false, apart := false, narrowed := true }
def DocKeepsUptoSaid : Prop := docKeepsUptoRow.holds Try.pinned (OpenSpec.upto docKeepsSpec)

/-- 'oxbowlaw12.DocTexts', WHERE WHAT IT READS IS OF BULK AT MOST 1048576: true; the input reads as it did. -/
def docTextsUptoRow : OpenClaim := { program := "ytdhpbfmamkndjaa", sum := "2d09e51e312670d3e2ca0c69b079e62fdb46466820e17a0c741fec53fc200b4a", func := "oxbow/oxbowlaw12.DocTexts", spec := "docTexts", plainKeys := false, apart := false, narrowed := true }
def DocTextsUptoSaid : Prop := docTextsUptoRow.holds Try.pinned (OpenSpec.upto docTextsSpec)

/-- 'oxbowlaw12.DocParts', WHERE WHAT IT READS IS OF BULK AT MOST 1048576: true; the input reads as it did. -/
def docPartsUptoRow : OpenClaim := { program := "ytdhpbfmamkndjaa", sum := "2d09e51e312670d3e2ca0c69b079e62fdb46466820e17a0c741fec53fc200b4a", func := "oxbow/oxbowlaw12.DocParts", spec := "docParts", plainKeys := false, apart := false, narrowed := true }
def DocPartsUptoSaid : Prop := docPartsUptoRow.holds Try.pinned (OpenSpec.upto docPartsSpec)

/-- 'oxbowlaw12.DocBack', WHERE WHAT IT READS IS OF BULK AT MOST 1048576: true; the input reads as it did. -/
def docBackUptoRow : OpenClaim := { program := "ytdhpbfmamkndjaa", sum := "2d09e51e312670d3e2ca0c69b079e62fdb46466820e17a0c741fec53fc200b4a", func := "oxbow/oxbowlaw12.DocBack", spec := "docBack", plainKeys := false, apart := false, narrowed := true }
def DocBackUptoSaid : Prop := docBackUptoRow.holds Try.pinned (OpenSpec.upto docBackSpec)

/-- 'oxbowlaw24.TraceEdits', WHERE WHAT IT READS IS OF BULK AT MOST 1048576: true; the input reads as it did. -/
def traceEditsUptoRow : OpenClaim := { program := "ytdhpbfmamkndjaa", sum := "2d09e51e312670d3e2ca0c69b079e62fdb46466820e17a0c741fec53fc200b4a", func := "oxbow/oxbowlaw24.TraceEdits", spec := "traceEdits", unfollowed := true, recurses := true, plainKeys := false, apart := false, narrowed := true }
def TraceEditsUptoSaid : Prop := traceEditsUptoRow.holds Try.pinned (OpenSpec.upto traceEditsSpec)

/-- 'oxbowlaw14.MergeDocs', WHERE WHAT IT READS IS OF BULK AT MOST 1048576: true; the input reads as it did. -/
def mergeDocsUptoRow : OpenClaim := { program := "ytdhpbfmamkndjaa", sum := "2d09e51e312670d3e2ca0c69b079e62fdb46466820e17a0c741fec53fc200b4a", func := "oxbow/oxbowlaw14.MergeDocs", spec := "mergeDocs", inPlace := ["internal/bytealg.abigen_runtime_cmpstring"], unfollowed := true, recurses := true, plainKeys := false, apart := false, narrowed := true }
def MergeDocsUptoSaid : Prop := mergeDocsUptoRow.holds Try.pinned (OpenSpec.upto mergeDocsSpec)

/-- 'oxbowlaw14.MergeDeltas', WHERE WHAT IT READS IS OF BULK AT MOST 1048576: true; the input reads as it did. -/
def mergeDeltasUptoRow : OpenClaim := { program := "ytdhpbfmamkndjaa", sum := "2d09e51e312670d3e2ca0c69b079e62fdb46466820e17a0c741fec53fc200b4a", func := "oxbow/oxbowlaw14.MergeDeltas", spec := "mergeDeltas", inPlace := ["internal/bytealg.abigen_runtime_cmpstring"], unfollowed := true, recurses := true, plainKeys := false, apart := false, narrowed := true }
def MergeDeltasUptoSaid : Prop := mergeDeltasUptoRow.holds Try.pinned (OpenSpec.upto mergeDeltasSpec)

/-- 'oxbowlaw14.MergeEven', WHERE WHAT IT READS IS OF BULK AT MOST 1048576: true; the input reads as it did. -/
def mergeEvenUptoRow : OpenClaim := { program := "ytdhpbfmamkndjaa", sum := "2d09e51e312670d3e2ca0c69b079e62fdb46466820e17a0c741fec53fc200b4a", func := "oxbow/oxbowlaw14.MergeEven", spec := "mergeEven", inPlace := ["internal/bytealg.abigen_runtime_cmpstring"], unfollowed := true, recurses := true, plainKeys := false, apart := false, narrowed := true }
def MergeEvenUptoSaid : Prop := mergeEvenUptoRow.holds Try.pinned (OpenSpec.upto mergeEvenSpec)

/-- 'oxbowlaw14.MergeAlone', WHERE WHAT IT READS IS OF BULK AT MOST 1048576: true; the input reads as it did. -/
def mergeAloneUptoRow : OpenClaim := { program := "ytdhpbfmamkndjaa", sum := "2d09e51e312670d3e2ca0c69b079e62fdb46466820e17a0c741fec53fc200b4a", func := "oxbow/oxbowlaw14.MergeAlone", spec := "mergeAlone", inPlace := ["internal/bytealg.abigen_runtime_cmpstring"], unfollowed := true, recurses := true, plainKeys := false, apart := false, narrowed := true }
def MergeAloneUptoSaid : Prop := mergeAloneUptoRow.holds Try.pinned (OpenSpec.upto mergeAloneSpec)

/-- 'oxbowlaw14.MergeAtoms', WHERE WHAT IT READS IS OF BULK AT MOST 1048576: true; the input reads as it did. -/
def mergeAtomsUptoRow : OpenClaim := { program := "ytdhpbfmamkndjaa", sum := "2d09e51e312670d3e2ca0c69b079e62fdb46466820e17a0c741fec53fc200b4a", func := "oxbow/oxbowlaw14.MergeAtoms", spec := "mergeAtoms", inPlace := ["internal/bytealg.abigen_runtime_cmpstring"], unfollowed := true, recurses := true, plainKeys := false, apart := false, narrowed := true }
def MergeAtomsUptoSaid : Prop := mergeAtomsUptoRow.holds Try.pinned (OpenSpec.upto mergeAtomsSpec)

/-- 'oxbowlaw14.MergeStays', WHERE WHAT IT READS IS OF BULK AT MOST 1048576: true; the input reads as it did. -/
def mergeStaysUptoRow : OpenClaim := { program := "ytdhpbfmamkndjaa", sum := "2d09e51e312670d3e2ca0c69b079e62fdb46466820e17a0c741fec53fc200b4a", func := "oxbow/oxbowlaw14.MergeStays", spec := "mergeStays", inPlace := ["internal/bytealg.abigen_runtime_cmpstring"], unfollowed := true, recurses := true, plainKeys := false, apart := false, narrowed := true }
def MergeStaysUptoSaid : Prop := mergeStaysUptoRow.holds Try.pinned (OpenSpec.upto mergeStaysSpec)

/-- 'oxbowlaw24.TraceMerges', WHERE WHAT IT READS IS OF BULK AT MOST 1048576: true; the input reads as it did. -/
def traceMergesUptoRow : OpenClaim := { program := "ytdhpbfmamkndjaa", sum := "2d09e51e312670d3e2ca0c69b079e62fdb46466820e17a0c741fec53fc200b4a", func := "oxbow/oxbowlaw24.TraceMerges", spec := "traceMerges", inPlace := ["internal/bytealg.abigen_runtime_cmpstring"], unfollowed := true, recurses := true, plainKeys := false, apart := false, narrowed := true }
def TraceMergesUptoSaid : Prop := traceMergesUptoRow.holds Try.pinned (OpenSpec.upto traceMergesSpec)

/-- 'oxbowlaw14.MergeLeads', WHERE WHAT IT READS IS OF BULK AT MOST 1048576: true; the input reads as it did. -/
def mergeLeadsUptoRow : OpenClaim := { program := "ytdhpbfmamkndjaa", sum := "2d09e51e312670d3e2ca0c69b079e62fdb46466820e17a0c741fec53fc200b4a", func := "oxbow/oxbowlaw14.MergeLeads", spec := "mergeLeads", inPlace := ["internal/bytealg.abigen_runtime_cmpstring"], unfollowed := true, recurses := true, plainKeys := false, apart := false, narrowed := true }
def MergeLeadsUptoSaid : Prop := mergeLeadsUptoRow.holds Try.pinned (OpenSpec.upto mergeLeadsSpec)

end Rows
end Go.Proofs.Ytdhpbfmamkndjaa
