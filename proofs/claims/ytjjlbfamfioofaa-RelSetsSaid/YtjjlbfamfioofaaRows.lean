/-
  No cell of these rows narrows 'for every input' (looked for: loops, veiled, ifaces, maps, wideKeys, modest, calm, conditions, laid).
  DERIVED. THE GIVEN ROWS OF THIS SEAT. 7 by the template 'for every input the law returns true; each argument reads behind the call as it read before'; 0 by the template 'total and deterministic' (their statements: YtjjlbfamfioofaaTotals.lean).
  GIVEN WITH THE SEED: the statements are not yours to turn. If you find one false, say at which input.
  Laid BY PROGRAM, IN A SANDBOX (cutbox-rows.mjs): the forced cells as the released guide's own fill.sh prints them over the translation 511b3aedf780cb21… (all of the seat's roots in one cut). By AI agents, Wed Nov 11 2026. No macro, syntax, notation, axiom, sorry.
-/
import Derived.Test.YtjjlbfamfioofaaChecked
import GoSem.Claim
import GoSem.ClaimJoined
import GoSem.ClaimMapViews
import Derived.JoinedTies
import Derived.KernelRfl
namespace Go.Proofs.Ytjjlbfamfioofaa
/- THE CELL 'sum', in the pinned program and in every row, IS THE sha256 OF THE DUMP (.gsa) THAT YtjjlbfamfioofaaProg.lean LOADS. Nothing in Lean hashes anything: it is a label: what it is worth is what the hold of that sum in a sandbox is worth. -/
noncomputable def Try.pinned : Pinned := { name := "ytjjlbfamfioofaa", sum := "511b3aedf780cb2188b17cc8cb8f94f52671625b84138ca714e5e2f4fe98eb2b", checked := Try.checked }
namespace Rows
def none {H : Type} : Left H := { results := [], args := [] }

/-- 'belatedlaw2.RelMakes': WHATEVER THE INPUT: true; the input reads as it did. -/
def relMakesSpec : ChangeSpec := { name := "relMakes", fn := fun _ => fun
  | [d] => { results := [.lit (.bool true)], args := [d] }
  | _ => none }
def relMakesRow : OpenClaim := { program := "ytjjlbfamfioofaa", sum := "511b3aedf780cb2188b17cc8cb8f94f52671625b84138ca714e5e2f4fe98eb2b", func := "belated/belatedlaw2.RelMakes", spec := "relMakes", apart := false }
def RelMakesSaid : Prop := relMakesRow.holds Try.pinned (OpenSpec.ofChange relMakesSpec)

/-- ITS FALSE NEIGHBOUR: 'it returns false'. Refute it at one input. -/
def relMakesWrong : ChangeSpec := { name := "relMakes", fn := fun _ => fun
  | [d] => { results := [.lit (.bool false)], args := [d] }
  | _ => none }
def RelMakesWrongFalsely : Prop := relMakesRow.holds Try.pinned (OpenSpec.ofChange relMakesWrong)

/-- 'belatedlaw2.RelAlgebra': WHATEVER THE INPUT: true; the input reads as it did. -/
def relAlgebraSpec : ChangeSpec := { name := "relAlgebra", fn := fun _ => fun
  | [d1, d2, d3] => { results := [.lit (.bool true)], args := [d1, d2, d3] }
  | _ => none }
def relAlgebraRow : OpenClaim := { program := "ytjjlbfamfioofaa", sum := "511b3aedf780cb2188b17cc8cb8f94f52671625b84138ca714e5e2f4fe98eb2b", func := "belated/belatedlaw2.RelAlgebra", spec := "relAlgebra", apart := false }
def RelAlgebraSaid : Prop := relAlgebraRow.holds Try.pinned (OpenSpec.ofChange relAlgebraSpec)

/-- ITS FALSE NEIGHBOUR: 'it returns false'. Refute it at one input. -/
def relAlgebraWrong : ChangeSpec := { name := "relAlgebra", fn := fun _ => fun
  | [d1, d2, d3] => { results := [.lit (.bool false)], args := [d1, d2, d3] }
  | _ => none }
def RelAlgebraWrongFalsely : Prop := relAlgebraRow.holds Try.pinned (OpenSpec.ofChange relAlgebraWrong)

/-- 'belatedlaw2.RelLeast': WHATEVER THE INPUT: true; the input reads as it did. -/
def relLeastSpec : ChangeSpec := { name := "relLeast", fn := fun _ => fun
  | [d1, d2] => { results := [.lit (.bool true)], args := [d1, d2] }
  | _ => none }
def relLeastRow : OpenClaim := { program := "ytjjlbfamfioofaa", sum := "511b3aedf780cb2188b17cc8cb8f94f52671625b84138ca714e5e2f4fe98eb2b", func := "belated/belatedlaw2.RelLeast", spec := "relLeast", apart := false }
def RelLeastSaid : Prop := relLeastRow.holds Try.pinned (OpenSpec.ofChange relLeastSpec)

/-- ITS FALSE NEIGHBOUR: 'it returns false'. Refute it at one input. -/
def relLeastWrong : ChangeSpec := { name := "relLeast", fn := fun _ => fun
  | [d1, d2] => { results := [.lit (.bool false)], args := [d1, d2] }
  | _ => none }
def RelLeastWrongFalsely : Prop := relLeastRow.holds Try.pinned (OpenSpec.ofChange relLeastWrong)

/-- 'belatedlaw2.RelTurns': WHATEVER THE INPUT: true; the input reads as it did. -/
def relTurnsSpec : ChangeSpec := { name := "relTurns", fn := fun _ => fun
  | [d1, d2, d3] => { results := [.lit (.bool true)], args := [d1, d2, d3] }
  | _ => none }
def relTurnsRow : OpenClaim := { program := "ytjjlbfamfioofaa", sum := "511b3aedf780cb2188b17cc8cb8f94f52671625b84138ca714e5e2f4fe98eb2b", func := "belated/belatedlaw2.RelTurns", spec := "relTurns", apart := false }
def RelTurnsSaid : Prop := relTurnsRow.holds Try.pinned (OpenSpec.ofChange relTurnsSpec)

/-- ITS FALSE NEIGHBOUR: 'it returns false'. Refute it at one input. -/
def relTurnsWrong : ChangeSpec := { name := "relTurns", fn := fun _ => fun
  | [d1, d2, d3] => { results := [.lit (.bool false)], args := [d1, d2, d3] }
  | _ => none }
def RelTurnsWrongFalsely : Prop := relTurnsRow.holds Try.pinned (OpenSpec.ofChange relTurnsWrong)

/-- 'belatedlaw2.RelSides': WHATEVER THE INPUT: true; the input reads as it did. -/
def relSidesSpec : ChangeSpec := { name := "relSides", fn := fun _ => fun
  | [d1, d2, d3] => { results := [.lit (.bool true)], args := [d1, d2, d3] }
  | _ => none }
def relSidesRow : OpenClaim := { program := "ytjjlbfamfioofaa", sum := "511b3aedf780cb2188b17cc8cb8f94f52671625b84138ca714e5e2f4fe98eb2b", func := "belated/belatedlaw2.RelSides", spec := "relSides", apart := false }
def RelSidesSaid : Prop := relSidesRow.holds Try.pinned (OpenSpec.ofChange relSidesSpec)

/-- ITS FALSE NEIGHBOUR: 'it returns false'. Refute it at one input. -/
def relSidesWrong : ChangeSpec := { name := "relSides", fn := fun _ => fun
  | [d1, d2, d3] => { results := [.lit (.bool false)], args := [d1, d2, d3] }
  | _ => none }
def RelSidesWrongFalsely : Prop := relSidesRow.holds Try.pinned (OpenSpec.ofChange relSidesWrong)

/-- 'belatedlaw2.RelSets': WHATEVER THE INPUT: true; the input reads as it did. -/
def relSetsSpec : ChangeSpec := { name := "relSets", fn := fun _ => fun
  | [d1, d2, d3, d4, d5] => { results := [.lit (.bool true)], args := [d1, d2, d3, d4, d5] }
  | _ => none }
def relSetsRow : OpenClaim := { program := "ytjjlbfamfioofaa", sum := "511b3aedf780cb2188b17cc8cb8f94f52671625b84138ca714e5e2f4fe98eb2b", func := "belated/belatedlaw2.RelSets", spec := "relSets", apart := false }
def RelSetsSaid : Prop := relSetsRow.holds Try.pinned (OpenSpec.ofChange relSetsSpec)

/-- ITS FALSE NEIGHBOUR: 'it returns false'. Refute it at one input. -/
def relSetsWrong : ChangeSpec := { name := "relSets", fn := fun _ => fun
  | [d1, d2, d3, d4, d5] => { results := [.lit (.bool false)], args := [d1, d2, d3, d4, d5] }
  | _ => none }
def RelSetsWrongFalsely : Prop := relSetsRow.holds Try.pinned (OpenSpec.ofChange relSetsWrong)

/-- 'belatedlaw2.RelTells': WHATEVER THE INPUT: true; the input reads as it did. -/
def relTellsSpec : ChangeSpec := { name := "relTells", fn := fun _ => fun
  | [d1, d2, d3] => { results := [.lit (.bool true)], args := [d1, d2, d3] }
  | _ => none }
def relTellsRow : OpenClaim := { program := "ytjjlbfamfioofaa", sum := "511b3aedf780cb2188b17cc8cb8f94f52671625b84138ca714e5e2f4fe98eb2b", func := "belated/belatedlaw2.RelTells", spec := "relTells", apart := false }
def RelTellsSaid : Prop := relTellsRow.holds Try.pinned (OpenSpec.ofChange relTellsSpec)

/-- ITS FALSE NEIGHBOUR: 'it returns false'. Refute it at one input. -/
def relTellsWrong : ChangeSpec := { name := "relTells", fn := fun _ => fun
  | [d1, d2, d3] => { results := [.lit (.bool false)], args := [d1, d2, d3] }
  | _ => none }
def RelTellsWrongFalsely : Prop := relTellsRow.holds Try.pinned (OpenSpec.ofChange relTellsWrong)

/- THE SECOND FORM. 'bulk': how many values and letters a reading holds, each counted each time it is reached (what is shared counts as often as it is met; a slice's spare places count too). A statement '..UptoSaid' is the law's where the arguments, and the package variables that the reading takes, are together of bulk at most 1048576: NARROWER than '..Said'. Prove '..Said' where nothing that the law and all that it calls make is longer than what came in: it says more and counts as full. Else prove '..UptoSaid'. A law counts once. -/
mutual
def uptoBulk {H : Type} : DataW H → Nat
  | .lit (.string bytes) => bytes.length + 1
  | .lit _ => 1
  | .nil => 1
  | .ptr d => uptoBulk d + 1
  | .slice elems spare => uptoBulkAll elems + uptoBulkAll spare + 1
  | .agg parts => uptoBulkAll parts + 1
  | .iface _ d => uptoBulk d + 1
  | .map entries => uptoBulkEntries entries + 1
  | .held _ => 1
def uptoBulkAll {H : Type} : List (DataW H) → Nat
  | [] => 0
  | d :: r => uptoBulk d + uptoBulkAll r
def uptoBulkEntries {H : Type} : List (Lit × DataW H) → Nat
  | [] => 0
  | x :: r => uptoBulkEntry x + uptoBulkEntries r
def uptoBulkEntry {H : Type} : Lit × DataW H → Nat
  | (.string bytes, d) => bytes.length + uptoBulk d + 1
  | (_, d) => uptoBulk d + 1
 end
def uptoSmall : (H : Type) → List (DataW H) → Bool := fun _ ds => decide (uptoBulkAll ds ≤ 1048576)
def OpenSpec.upto (s : _root_.Go.ChangeSpec) : _root_.Go.OpenSpec := { _root_.Go.OpenSpec.ofChange s with cond := some uptoSmall }

/-- 'belatedlaw2.RelMakes', WHERE WHAT IT READS IS OF BULK AT MOST 1048576: true; the input reads as it did. -/
def relMakesUptoRow : OpenClaim := { program := "ytjjlbfamfioofaa", sum := "511b3aedf780cb2188b17cc8cb8f94f52671625b84138ca714e5e2f4fe98eb2b", func := "belated/belatedlaw2.RelMakes", spec := "relMakes", apart := false, narrowed := true }
def RelMakesUptoSaid : Prop := relMakesUptoRow.holds Try.pinned (OpenSpec.upto relMakesSpec)

/-- 'belatedlaw2.RelAlgebra', WHERE WHAT IT READS IS OF BULK AT MOST 1048576: true; the input reads as it did. -/
def relAlgebraUptoRow : OpenClaim := { program := "ytjjlbfamfioofaa", sum := "511b3aedf780cb2188b17cc8cb8f94f52671625b84138ca714e5e2f4fe98eb2b", func := "belated/belatedlaw2.RelAlgebra", spec := "relAlgebra", apart := false, narrowed := true }
def RelAlgebraUptoSaid : Prop := relAlgebraUptoRow.holds Try.pinned (OpenSpec.upto relAlgebraSpec)

/-- 'belatedlaw2.RelLeast', WHERE WHAT IT READS IS OF BULK AT MOST 1048576: true; the input reads as it did. -/
def relLeastUptoRow : OpenClaim := { program := "ytjjlbfamfioofaa", sum := "511b3aedf780cb2188b17cc8cb8f94f52671625b84138ca714e5e2f4fe98eb2b", func := "belated/belatedlaw2.RelLeast", spec := "relLeast", apart := false, narrowed := true }
def RelLeastUptoSaid : Prop := relLeastUptoRow.holds Try.pinned (OpenSpec.upto relLeastSpec)

/-- 'belatedlaw2.RelTurns', WHERE WHAT IT READS IS OF BULK AT MOST 1048576: true; the input reads as it did. -/
def relTurnsUptoRow : OpenClaim := { program := "ytjjlbfamfioofaa", sum := "511b3aedf780cb2188b17cc8cb8f94f52671625b84138ca714e5e2f4fe98eb2b", func := "belated/belatedlaw2.RelTurns", spec := "relTurns", apart := false, narrowed := true }
def RelTurnsUptoSaid : Prop := relTurnsUptoRow.holds Try.pinned (OpenSpec.upto relTurnsSpec)

/-- 'belatedlaw2.RelSides', WHERE WHAT IT READS IS OF BULK AT MOST 1048576: true; the input reads as it did. -/
def relSidesUptoRow : OpenClaim := { program := "ytjjlbfamfioofaa", sum := "511b3aedf780cb2188b17cc8cb8f94f52671625b84138ca714e5e2f4fe98eb2b", func := "belated/belatedlaw2.RelSides", spec := "relSides", apart := false, narrowed := true }
def RelSidesUptoSaid : Prop := relSidesUptoRow.holds Try.pinned (OpenSpec.upto relSidesSpec)

/-- 'belatedlaw2.RelSets', WHERE WHAT IT READS IS OF BULK AT MOST 1048576: true; the input reads as it did. -/
def relSetsUptoRow : OpenClaim := { program := "ytjjlbfamfioofaa", sum := "511b3aedf780cb2188b17cc8cb8f94f52671625b84138ca714e5e2f4fe98eb2b", func := "belated/belatedlaw2.RelSets", spec := "relSets", apart := false, narrowed := true }
def RelSetsUptoSaid : Prop := relSetsUptoRow.holds Try.pinned (OpenSpec.upto relSetsSpec)

/-- 'belatedlaw2.RelTells', WHERE WHAT IT READS IS OF BULK AT MOST 1048576: true; the input reads as it did. -/
def relTellsUptoRow : OpenClaim := { program := "ytjjlbfamfioofaa", sum := "511b3aedf780cb2188b17cc8cb8f94f52671625b84138ca714e5e2f4fe98eb2b", func := "belated/belatedlaw2.RelTells", spec := "relTells", apart := false, narrowed := true }
def RelTellsUptoSaid : Prop := relTellsUptoRow.holds Try.pinned (OpenSpec.upto relTellsSpec)

end Rows
end Go.Proofs.Ytjjlbfamfioofaa
