/-
  No cell of these rows narrows 'for every input' (looked for: loops, veiled, ifaces, maps, wideKeys, modest, calm, conditions, laid).
  DERIVED. THE GIVEN ROWS OF THIS SEAT. 5 by the template 'for every input the law returns true; each argument reads behind the call as it read before'; 0 by the template 'total and deterministic' (their statements: YtjodnadlplicmaaTotals.lean).
  GIVEN WITH THE SEED: the statements are not yours to turn. If you find one false, say at which input.
  Laid BY PROGRAM, IN A SANDBOX (cutbox-rows.mjs): the forced cells as the released guide's own fill.sh prints them over the translation d9c9a026955d0960… (all of the seat's roots in one cut). By AI agents, Wed Nov 11 2026. No macro, syntax, notation, axiom, sorry.
-/
import Derived.Test.YtjodnadlplicmaaChecked
import GoSem.Claim
import GoSem.ClaimJoined
import GoSem.ClaimMapViews
import Derived.JoinedTies
import Derived.KernelRfl
namespace Go.Proofs.Ytjodnadlplicmaa
/- THE CELL 'sum', in the pinned program and in every row, IS THE sha256 OF THE DUMP (.gsa) THAT YtjodnadlplicmaaProg.lean LOADS. Nothing in Lean hashes anything: it is a label: what it is worth is what the hold of that sum in a sandbox is worth. -/
noncomputable def Try.pinned : Pinned := { name := "ytjodnadlplicmaa", sum := "d9c9a026955d096056ab502010f8dd340c1459080c6052e8f50675dbf1cc5df4", checked := Try.checked }
namespace Rows
def none {H : Type} : Left H := { results := [], args := [] }

/-- 'belatedlaw3.UirChecks': WHATEVER THE INPUT: true; the input reads as it did. -/
def uirChecksSpec : ChangeSpec := { name := "uirChecks", fn := fun _ => fun
  | [d] => { results := [.lit (.bool true)], args := [d] }
  | _ => none }
def uirChecksRow : OpenClaim := { program := "ytjodnadlplicmaa", sum := "d9c9a026955d096056ab502010f8dd340c1459080c6052e8f50675dbf1cc5df4", func := "belated/belatedlaw3.UirChecks", spec := "uirChecks", unfollowed := true, recurses := true, apart := false }
def UirChecksSaid : Prop := uirChecksRow.holds Try.pinned (OpenSpec.ofChange uirChecksSpec)

/-- ITS FALSE NEIGHBOUR: 'it returns false'. Refute it at one input. -/
def uirChecksWrong : ChangeSpec := { name := "uirChecks", fn := fun _ => fun
  | [d] => { results := [.lit (.bool false)], args := [d] }
  | _ => none }
def UirChecksWrongFalsely : Prop := uirChecksRow.holds Try.pinned (OpenSpec.ofChange uirChecksWrong)

/-- 'belatedlaw3.UirLocal': WHATEVER THE INPUT: true; the input reads as it did. -/
def uirLocalSpec : ChangeSpec := { name := "uirLocal", fn := fun _ => fun
  | [d1, d2, d3] => { results := [.lit (.bool true)], args := [d1, d2, d3] }
  | _ => none }
def uirLocalRow : OpenClaim := { program := "ytjodnadlplicmaa", sum := "d9c9a026955d096056ab502010f8dd340c1459080c6052e8f50675dbf1cc5df4", func := "belated/belatedlaw3.UirLocal", spec := "uirLocal", unfollowed := true, recurses := true, apart := false }
def UirLocalSaid : Prop := uirLocalRow.holds Try.pinned (OpenSpec.ofChange uirLocalSpec)

/-- ITS FALSE NEIGHBOUR: 'it returns false'. Refute it at one input. -/
def uirLocalWrong : ChangeSpec := { name := "uirLocal", fn := fun _ => fun
  | [d1, d2, d3] => { results := [.lit (.bool false)], args := [d1, d2, d3] }
  | _ => none }
def UirLocalWrongFalsely : Prop := uirLocalRow.holds Try.pinned (OpenSpec.ofChange uirLocalWrong)

/-- 'belatedlaw3.UirSteps': WHATEVER THE INPUT: true; the input reads as it did. -/
def uirStepsSpec : ChangeSpec := { name := "uirSteps", fn := fun _ => fun
  | [d1, d2, d3] => { results := [.lit (.bool true)], args := [d1, d2, d3] }
  | _ => none }
def uirStepsRow : OpenClaim := { program := "ytjodnadlplicmaa", sum := "d9c9a026955d096056ab502010f8dd340c1459080c6052e8f50675dbf1cc5df4", func := "belated/belatedlaw3.UirSteps", spec := "uirSteps", unfollowed := true, recurses := true, apart := false }
def UirStepsSaid : Prop := uirStepsRow.holds Try.pinned (OpenSpec.ofChange uirStepsSpec)

/-- ITS FALSE NEIGHBOUR: 'it returns false'. Refute it at one input. -/
def uirStepsWrong : ChangeSpec := { name := "uirSteps", fn := fun _ => fun
  | [d1, d2, d3] => { results := [.lit (.bool false)], args := [d1, d2, d3] }
  | _ => none }
def UirStepsWrongFalsely : Prop := uirStepsRow.holds Try.pinned (OpenSpec.ofChange uirStepsWrong)

/-- 'belatedlaw3.UirRight': WHATEVER THE INPUT: true; the input reads as it did. -/
def uirRightSpec : ChangeSpec := { name := "uirRight", fn := fun _ => fun
  | [d1, d2, d3] => { results := [.lit (.bool true)], args := [d1, d2, d3] }
  | _ => none }
def uirRightRow : OpenClaim := { program := "ytjodnadlplicmaa", sum := "d9c9a026955d096056ab502010f8dd340c1459080c6052e8f50675dbf1cc5df4", func := "belated/belatedlaw3.UirRight", spec := "uirRight", unfollowed := true, recurses := true, apart := false }
def UirRightSaid : Prop := uirRightRow.holds Try.pinned (OpenSpec.ofChange uirRightSpec)

/-- ITS FALSE NEIGHBOUR: 'it returns false'. Refute it at one input. -/
def uirRightWrong : ChangeSpec := { name := "uirRight", fn := fun _ => fun
  | [d1, d2, d3] => { results := [.lit (.bool false)], args := [d1, d2, d3] }
  | _ => none }
def UirRightWrongFalsely : Prop := uirRightRow.holds Try.pinned (OpenSpec.ofChange uirRightWrong)

/-- 'belatedlaw3.UirQuiet': WHATEVER THE INPUT: true; the input reads as it did. -/
def uirQuietSpec : ChangeSpec := { name := "uirQuiet", fn := fun _ => fun
  | [d1, d2, d3, d4, d5] => { results := [.lit (.bool true)], args := [d1, d2, d3, d4, d5] }
  | _ => none }
def uirQuietRow : OpenClaim := { program := "ytjodnadlplicmaa", sum := "d9c9a026955d096056ab502010f8dd340c1459080c6052e8f50675dbf1cc5df4", func := "belated/belatedlaw3.UirQuiet", spec := "uirQuiet", unfollowed := true, recurses := true, apart := false }
def UirQuietSaid : Prop := uirQuietRow.holds Try.pinned (OpenSpec.ofChange uirQuietSpec)

/-- ITS FALSE NEIGHBOUR: 'it returns false'. Refute it at one input. -/
def uirQuietWrong : ChangeSpec := { name := "uirQuiet", fn := fun _ => fun
  | [d1, d2, d3, d4, d5] => { results := [.lit (.bool false)], args := [d1, d2, d3, d4, d5] }
  | _ => none }
def UirQuietWrongFalsely : Prop := uirQuietRow.holds Try.pinned (OpenSpec.ofChange uirQuietWrong)

/- THE SECOND FORM. 'bulk': how many values and letters a reading holds, each counted each time it is reached (what is shared counts as often as it is met; a slice's spare places count too). A statement '..UptoSaid' is the law's where the arguments, and the package variables that the reading takes, are together of bulk at most 1048576: NARROWER than '..Said'. Prove '..Said' where nothing that the law and all that it calls make is longer than what came in: it says more and counts as full. Else prove '..UptoSaid'. A law counts once. -/
mutual
def uptoBulk {H : Type} : DataW H → Nat
  | .lit (.string bytes) => bytes.length + 1
  | .lit _ => 1
  | .nil => 1
  | .ptr d => uptoBulk d + 1
  | .slice elems spare => uptoBulkAll elems + uptoBulkAll spare + 1
  | .agg parts => uptoBulkAll parts + 1
  | .iface _ d => uptoBulk d + 1
  | .map entries => uptoBulkEntries entries + 1
  | .held _ => 1
def uptoBulkAll {H : Type} : List (DataW H) → Nat
  | [] => 0
  | d :: r => uptoBulk d + uptoBulkAll r
def uptoBulkEntries {H : Type} : List (Lit × DataW H) → Nat
  | [] => 0
  | x :: r => uptoBulkEntry x + uptoBulkEntries r
def uptoBulkEntry {H : Type} : Lit × DataW H → Nat
  | (.string bytes, d) => bytes.length + uptoBulk d + 1
  | (_, d) => uptoBulk d + 1
 end
def uptoSmall : (H : Type) → List (DataW H) → Bool := fun _ ds => decide (uptoBulkAll ds ≤ 1048576)
def OpenSpec.upto (s : _root_.Go.ChangeSpec) : _root_.Go.OpenSpec := { _root_.Go.OpenSpec.ofChange s with cond := some uptoSmall }

/-- 'belatedlaw3.UirChecks', WHERE WHAT IT READS IS OF BULK AT MOST 1048576: true; the input reads as it did. -/
def uirChecksUptoRow : OpenClaim := { program := "ytjodnadlplicmaa", sum := "d9c9a026955d096056ab502010f8dd340c1459080c6052e8f50675dbf1cc5df4", func := "belated/belatedlaw3.UirChecks", spec := "uirChecks", unfollowed := true, recurses := true, apart := false, narrowed := true }
def UirChecksUptoSaid : Prop := uirChecksUptoRow.holds Try.pinned (OpenSpec.upto uirChecksSpec)

/-- 'belatedlaw3.UirLocal', WHERE WHAT IT READS IS OF BULK AT MOST 1048576: true; the input reads as it did. -/
def uirLocalUptoRow : OpenClaim := { program := "ytjodnadlplicmaa", sum := "d9c9a026955d096056ab502010f8dd340c1459080c6052e8f50675dbf1cc5df4", func := "belated/belatedlaw3.UirLocal", spec := "uirLocal", unfollowed := true, recurses := true, apart := false, narrowed := true }
def UirLocalUptoSaid : Prop := uirLocalUptoRow.holds Try.pinned (OpenSpec.upto uirLocalSpec)

/-- 'belatedlaw3.UirSteps', WHERE WHAT IT READS IS OF BULK AT MOST 1048576: true; the input reads as it did. -/
def uirStepsUptoRow : OpenClaim := { program := "ytjodnadlplicmaa", sum := "d9c9a026955d096056ab502010f8dd340c1459080c6052e8f50675dbf1cc5df4", func := "belated/belatedlaw3.UirSteps", spec := "uirSteps", unfollowed := true, recurses := true, apart := false, narrowed := true }
def UirStepsUptoSaid : Prop := uirStepsUptoRow.holds Try.pinned (OpenSpec.upto uirStepsSpec)

/-- 'belatedlaw3.UirRight', WHERE WHAT IT READS IS OF BULK AT MOST 1048576: true; the input reads as it did. -/
def uirRightUptoRow : OpenClaim := { program := "ytjodnadlplicmaa", sum := "d9c9a026955d096056ab502010f8dd340c1459080c6052e8f50675dbf1cc5df4", func := "belated/belatedlaw3.UirRight", spec := "uirRight", unfollowed := true, recurses := true, apart := false, narrowed := true }
def UirRightUptoSaid : Prop := uirRightUptoRow.holds Try.pinned (OpenSpec.upto uirRightSpec)

/-- 'belatedlaw3.UirQuiet', WHERE WHAT IT READS IS OF BULK AT MOST 1048576: true; the input reads as it did. -/
def uirQuietUptoRow : OpenClaim := { program := "ytjodnadlplicmaa", sum := "d9c9a026955d096056ab502010f8dd340c1459080c6052e8f50675dbf1cc5df4", func := "belated/belatedlaw3.UirQuiet", spec := "uirQuiet", unfollowed := true, recurses := true, apart := false, narrowed := true }
def UirQuietUptoSaid : Prop := uirQuietUptoRow.holds Try.pinned (OpenSpec.upto uirQuietSpec)

end Rows
end Go.Proofs.Ytjodnadlplicmaa
