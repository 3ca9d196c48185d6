/-
  No cell of these rows narrows 'for every input' (looked for: loops, veiled, ifaces, maps, wideKeys, modest, calm, conditions, laid).
  DERIVED. THE GIVEN ROWS OF THIS SEAT. 6 by the template 'for every input the law returns true; each argument reads behind the call as it read before'; 0 by the template 'total and deterministic' (their statements: YtoeoahpngmhkdaaTotals.lean).
  GIVEN WITH THE SEED: the statements are not yours to turn. If you find one false, say at which input.
  Laid BY PROGRAM, IN A SANDBOX (cutbox-rows.mjs): the forced cells as the released guide's own fill.sh prints them over the translation c3f0265926f3fc08… (all of the seat's roots in one cut). By AI agents, Wed Nov 11 2026. No macro, syntax, notation, axiom, sorry.
-/
import Derived.Test.YtoeoahpngmhkdaaChecked
import GoSem.Claim
import GoSem.ClaimJoined
import GoSem.ClaimMapViews
import Derived.JoinedTies
import Derived.KernelRfl
namespace Go.Proofs.Ytoeoahpngmhkdaa
/- THE CELL 'sum', in the pinned program and in every row, IS THE sha256 OF THE DUMP (.gsa) THAT YtoeoahpngmhkdaaProg.lean LOADS. Nothing in Lean hashes anything: it is a label: what it is worth is what the hold of that sum in a sandbox is worth. -/
noncomputable def Try.pinned : Pinned := { name := "ytoeoahpngmhkdaa", sum := "c3f0265926f3fc0855bb9543ea16436dc236c828a55d23562b727203314b0c6d", checked := Try.checked }
namespace Rows
def none {H : Type} : Left H := { results := [], args := [] }

/-- 'belatedlaw10.FlowPaths': WHATEVER THE INPUT: true; the input reads as it did. -/
def flowPathsSpec : ChangeSpec := { name := "flowPaths", fn := fun _ => fun
  | [d] => { results := [.lit (.bool true)], args := [d] }
  | _ => none }
def flowPathsRow : OpenClaim := { program := "ytoeoahpngmhkdaa", sum := "c3f0265926f3fc0855bb9543ea16436dc236c828a55d23562b727203314b0c6d", func := "belated/belatedlaw10.FlowPaths", spec := "flowPaths", unfollowed := true, recurses := true, apart := false }
def FlowPathsSaid : Prop := flowPathsRow.holds Try.pinned (OpenSpec.ofChange flowPathsSpec)

/-- ITS FALSE NEIGHBOUR: 'it returns false'. Refute it at one input. -/
def flowPathsWrong : ChangeSpec := { name := "flowPaths", fn := fun _ => fun
  | [d] => { results := [.lit (.bool false)], args := [d] }
  | _ => none }
def FlowPathsWrongFalsely : Prop := flowPathsRow.holds Try.pinned (OpenSpec.ofChange flowPathsWrong)

/-- 'belatedlaw10.FlowCounts': WHATEVER THE INPUT: true; the input reads as it did. -/
def flowCountsSpec : ChangeSpec := { name := "flowCounts", fn := fun _ => fun
  | [d] => { results := [.lit (.bool true)], args := [d] }
  | _ => none }
def flowCountsRow : OpenClaim := { program := "ytoeoahpngmhkdaa", sum := "c3f0265926f3fc0855bb9543ea16436dc236c828a55d23562b727203314b0c6d", func := "belated/belatedlaw10.FlowCounts", spec := "flowCounts", unfollowed := true, recurses := true, apart := false }
def FlowCountsSaid : Prop := flowCountsRow.holds Try.pinned (OpenSpec.ofChange flowCountsSpec)

/-- ITS FALSE NEIGHBOUR: 'it returns false'. Refute it at one input. -/
def flowCountsWrong : ChangeSpec := { name := "flowCounts", fn := fun _ => fun
  | [d] => { results := [.lit (.bool false)], args := [d] }
  | _ => none }
def FlowCountsWrongFalsely : Prop := flowCountsRow.holds Try.pinned (OpenSpec.ofChange flowCountsWrong)

/-- 'belatedlaw10.FlowHangs': WHATEVER THE INPUT: true; the input reads as it did. -/
def flowHangsSpec : ChangeSpec := { name := "flowHangs", fn := fun _ => fun
  | [d1, d2, d3] => { results := [.lit (.bool true)], args := [d1, d2, d3] }
  | _ => none }
def flowHangsRow : OpenClaim := { program := "ytoeoahpngmhkdaa", sum := "c3f0265926f3fc0855bb9543ea16436dc236c828a55d23562b727203314b0c6d", func := "belated/belatedlaw10.FlowHangs", spec := "flowHangs", unfollowed := true, recurses := true, apart := false }
def FlowHangsSaid : Prop := flowHangsRow.holds Try.pinned (OpenSpec.ofChange flowHangsSpec)

/-- ITS FALSE NEIGHBOUR: 'it returns false'. Refute it at one input. -/
def flowHangsWrong : ChangeSpec := { name := "flowHangs", fn := fun _ => fun
  | [d1, d2, d3] => { results := [.lit (.bool false)], args := [d1, d2, d3] }
  | _ => none }
def FlowHangsWrongFalsely : Prop := flowHangsRow.holds Try.pinned (OpenSpec.ofChange flowHangsWrong)

/-- 'belatedlaw10.FlowValues': WHATEVER THE INPUT: true; the input reads as it did. -/
def flowValuesSpec : ChangeSpec := { name := "flowValues", fn := fun _ => fun
  | [d1, d2, d3, d4, d5, d6, d7] => { results := [.lit (.bool true)], args := [d1, d2, d3, d4, d5, d6, d7] }
  | _ => none }
def flowValuesRow : OpenClaim := { program := "ytoeoahpngmhkdaa", sum := "c3f0265926f3fc0855bb9543ea16436dc236c828a55d23562b727203314b0c6d", func := "belated/belatedlaw10.FlowValues", spec := "flowValues", unfollowed := true, recurses := true, apart := false }
def FlowValuesSaid : Prop := flowValuesRow.holds Try.pinned (OpenSpec.ofChange flowValuesSpec)

/-- ITS FALSE NEIGHBOUR: 'it returns false'. Refute it at one input. -/
def flowValuesWrong : ChangeSpec := { name := "flowValues", fn := fun _ => fun
  | [d1, d2, d3, d4, d5, d6, d7] => { results := [.lit (.bool false)], args := [d1, d2, d3, d4, d5, d6, d7] }
  | _ => none }
def FlowValuesWrongFalsely : Prop := flowValuesRow.holds Try.pinned (OpenSpec.ofChange flowValuesWrong)

/-- 'belatedlaw10.FlowHolds': WHATEVER THE INPUT: true; the input reads as it did. -/
def flowHoldsSpec : ChangeSpec := { name := "flowHolds", fn := fun _ => fun
  | [d1, d2, d3, d4, d5, d6, d7] => { results := [.lit (.bool true)], args := [d1, d2, d3, d4, d5, d6, d7] }
  | _ => none }
def flowHoldsRow : OpenClaim := { program := "ytoeoahpngmhkdaa", sum := "c3f0265926f3fc0855bb9543ea16436dc236c828a55d23562b727203314b0c6d", func := "belated/belatedlaw10.FlowHolds", spec := "flowHolds", unfollowed := true, recurses := true, apart := false }
def FlowHoldsSaid : Prop := flowHoldsRow.holds Try.pinned (OpenSpec.ofChange flowHoldsSpec)

/-- ITS FALSE NEIGHBOUR: 'it returns false'. Refute it at one input. -/
def flowHoldsWrong : ChangeSpec := { name := "flowHolds", fn := fun _ => fun
  | [d1, d2, d3, d4, d5, d6, d7] => { results := [.lit (.bool false)], args := [d1, d2, d3, d4, d5, d6, d7] }
  | _ => none }
def FlowHoldsWrongFalsely : Prop := flowHoldsRow.holds Try.pinned (OpenSpec.ofChange flowHoldsWrong)

/-- 'belatedlaw10.FlowRuns': WHATEVER THE INPUT: true; the input reads as it did. -/
def flowRunsSpec : ChangeSpec := { name := "flowRuns", fn := fun _ => fun
  | [d1, d2, d3] => { results := [.lit (.bool true)], args := [d1, d2, d3] }
  | _ => none }
def flowRunsRow : OpenClaim := { program := "ytoeoahpngmhkdaa", sum := "c3f0265926f3fc0855bb9543ea16436dc236c828a55d23562b727203314b0c6d", func := "belated/belatedlaw10.FlowRuns", spec := "flowRuns", unfollowed := true, recurses := true, apart := false }
def FlowRunsSaid : Prop := flowRunsRow.holds Try.pinned (OpenSpec.ofChange flowRunsSpec)

/-- ITS FALSE NEIGHBOUR: 'it returns false'. Refute it at one input. -/
def flowRunsWrong : ChangeSpec := { name := "flowRuns", fn := fun _ => fun
  | [d1, d2, d3] => { results := [.lit (.bool false)], args := [d1, d2, d3] }
  | _ => none }
def FlowRunsWrongFalsely : Prop := flowRunsRow.holds Try.pinned (OpenSpec.ofChange flowRunsWrong)

/- THE SECOND FORM. 'bulk': how many values and letters a reading holds, each counted each time it is reached (what is shared counts as often as it is met; a slice's spare places count too). A statement '..UptoSaid' is the law's where the arguments, and the package variables that the reading takes, are together of bulk at most 1048576: NARROWER than '..Said'. Prove '..Said' where nothing that the law and all that it calls make is longer than what came in: it says more and counts as full. Else prove '..UptoSaid'. A law counts once. -/
mutual
def uptoBulk {H : Type} : DataW H → Nat
  | .lit (.string bytes) => bytes.length + 1
  | .lit _ => 1
  | .nil => 1
  | .ptr d => uptoBulk d + 1
  | .slice elems spare => uptoBulkAll elems + uptoBulkAll spare + 1
  | .agg parts => uptoBulkAll parts + 1
  | .iface _ d => uptoBulk d + 1
  | .map entries => uptoBulkEntries entries + 1
  | .held _ => 1
def uptoBulkAll {H : Type} : List (DataW H) → Nat
  | [] => 0
  | d :: r => uptoBulk d + uptoBulkAll r
def uptoBulkEntries {H : Type} : List (Lit × DataW H) → Nat
  | [] => 0
  | x :: r => uptoBulkEntry x + uptoBulkEntries r
def uptoBulkEntry {H : Type} : Lit × DataW H → Nat
  | (.string bytes, d) => bytes.length + uptoBulk d + 1
  | (_, d) => uptoBulk d + 1
 end
def uptoSmall : (H : Type) → List (DataW H) → Bool := fun _ ds => decide (uptoBulkAll ds ≤ 1048576)
def OpenSpec.upto (s : _root_.Go.ChangeSpec) : _root_.Go.OpenSpec := { _root_.Go.OpenSpec.ofChange s with cond := some uptoSmall }

/-- 'belatedlaw10.FlowPaths', WHERE WHAT IT READS IS OF BULK AT MOST 1048576: true; the input reads as it did. -/
def flowPathsUptoRow : OpenClaim := { program := "ytoeoahpngmhkdaa", sum := "c3f0265926f3fc0855bb9543ea16436dc236c828a55d23562b727203314b0c6d", func := "belated/belatedlaw10.FlowPaths", spec := "flowPaths", unfollowed := true, recurses := true, apart := false, narrowed := true }
def FlowPathsUptoSaid : Prop := flowPathsUptoRow.holds Try.pinned (OpenSpec.upto flowPathsSpec)

/-- 'belatedlaw10.FlowCounts', WHERE WHAT IT READS IS OF BULK AT MOST 1048576: true; the input reads as it did. -/
def flowCountsUptoRow : OpenClaim := { program := "ytoeoahpngmhkdaa", sum := "c3f0265926f3fc0855bb9543ea16436dc236c828a55d23562b727203314b0c6d", func := "belated/belatedlaw10.FlowCounts", spec := "flowCounts", unfollowed := true, recurses := true, apart := false, narrowed := true }
def FlowCountsUptoSaid : Prop := flowCountsUptoRow.holds Try.pinned (OpenSpec.upto flowCountsSpec)

/-- 'belatedlaw10.FlowHangs', WHERE WHAT IT READS IS OF BULK AT MOST 1048576: true; the input reads as it did. -/
def flowHangsUptoRow : OpenClaim := { program := "ytoeoahpngmhkdaa", sum := "c3f0265926f3fc0855bb9543ea16436dc236c828a55d23562b727203314b0c6d", func := "belated/belatedlaw10.FlowHangs", spec := "flowHangs", unfollowed := true, recurses := true, apart := false, narrowed := true }
def FlowHangsUptoSaid : Prop := flowHangsUptoRow.holds Try.pinned (OpenSpec.upto flowHangsSpec)

/-- 'belatedlaw10.FlowValues', WHERE WHAT IT READS IS OF BULK AT MOST 1048576: true; the input reads as it did. -/
def flowValuesUptoRow : OpenClaim := { program := "ytoeoahpngmhkdaa", sum := "c3f0265926f3fc0855bb9543ea16436dc236c828a55d23562b727203314b0c6d", func := "belated/belatedlaw10.FlowValues", spec := "flowValues", unfollowed := true, recurses := true, apart := false, narrowed := true }
def FlowValuesUptoSaid : Prop := flowValuesUptoRow.holds Try.pinned (OpenSpec.upto flowValuesSpec)

/-- 'belatedlaw10.FlowHolds', WHERE WHAT IT READS IS OF BULK AT MOST 1048576: true; the input reads as it did. -/
def flowHoldsUptoRow : OpenClaim := { program := "ytoeoahpngmhkdaa", sum := "c3f0265926f3fc0855bb9543ea16436dc236c828a55d23562b727203314b0c6d", func := "belated/belatedlaw10.FlowHolds", spec := "flowHolds", unfollowed := true, recurses := true, apart := false, narrowed := true }
def FlowHoldsUptoSaid : Prop := flowHoldsUptoRow.holds Try.pinned (OpenSpec.upto flowHoldsSpec)

/-- 'belatedlaw10.FlowRuns', WHERE WHAT IT READS IS OF BULK AT MOST 1048576: true; the input reads as it did. -/
def flowRunsUptoRow : OpenClaim := { program := "ytoeoahpngmhkdaa", sum := "c3f0265926f3fc0855bb9543ea16436dc236c828a55d23562b727203314b0c6d", func := "belated/belatedlaw10.FlowRuns", spec := "flowRuns", unfollowed := true, recurses := true, apart := false, narrowed := true }
def FlowRunsUptoSaid : Prop := flowRunsUptoRow.holds Try.pinned (OpenSpec.upto flowRunsSpec)

end Rows
end Go.Proofs.Ytoeoahpngmhkdaa
