/-
  DERIVED. GIVEN WITH THE SEED: THE CARDS: each row of YtjjlbfamfioofaaDoorRows.lean that lists a variable, with what it lists TIED to the program's text (the seventh form; the later family's looks); each row that meets fmt, with fmt's text TOLD by the authors' own Lean function (tested against real Go, not proved from fmt's source: count such statements apart). THE CARD IS WHAT COUNTS. Prove the row's statement (the work); the ties are given (YtjjlbfamfioofaaDoorTie.lean); close each card by the builder's one call (the guide's Derived/Test/ToyasCard.lean, 'card_holds'). Laid BY PROGRAM, IN A SANDBOX (cutbox-door.mjs). By AI agents, Wed Nov 11 2026. No macro, syntax, notation, axiom, sorry.
-/
import Derived.Test.YtjjlbfamfioofaaDoorRows
import GoSem.ClaimSeven
namespace Go.Proofs.YtjjlbfamfioofaaDoor
namespace Rows

/-- THE TIED CARD OF 'belatedlaw2.RelOrders'. -/
def relOrdersCard : Claim7 := { stood := { row := relOrdersRow, standIns := [], harness := (true, "755872ca826373f987f2b12f105f8c1d3fd52d10e18f07478b1615eca53f25e7"), looks := false }, kinds := [], alts := [], laidByText := true, laidKinds := [.data], laidTests := true, laidLooks := .later }
def RelOrdersCardSaid : Prop := Claim7.holds Tryd.pinned (.plain (OpenSpec.ofChange relOrdersSpec)) relOrdersCard

/-- THE TIED CARD OF 'belatedlaw2.RelRows'. -/
def relRowsCard : Claim7 := { stood := { row := relRowsRow, standIns := [], harness := (true, "755872ca826373f987f2b12f105f8c1d3fd52d10e18f07478b1615eca53f25e7"), looks := false }, kinds := [], alts := [], laidByText := true, laidKinds := [.data], laidTests := true, laidLooks := .later }
def RelRowsCardSaid : Prop := Claim7.holds Tryd.pinned (.plain (OpenSpec.ofChange relRowsSpec)) relRowsCard

/-- THE SECOND FORM's CARD OF 'belatedlaw2.RelOrders'. -/
def relOrdersUptoCard : Claim7 := { stood := { row := relOrdersUptoRow, standIns := [], harness := (true, "755872ca826373f987f2b12f105f8c1d3fd52d10e18f07478b1615eca53f25e7"), looks := false }, kinds := [], alts := [], laidByText := true, laidKinds := [.data], laidTests := true, laidLooks := .later }
def RelOrdersUptoCardSaid : Prop := Claim7.holds Tryd.pinned (.plain (OpenSpec.upto relOrdersSpec)) relOrdersUptoCard

/-- THE SECOND FORM's CARD OF 'belatedlaw2.RelRows'. -/
def relRowsUptoCard : Claim7 := { stood := { row := relRowsUptoRow, standIns := [], harness := (true, "755872ca826373f987f2b12f105f8c1d3fd52d10e18f07478b1615eca53f25e7"), looks := false }, kinds := [], alts := [], laidByText := true, laidKinds := [.data], laidTests := true, laidLooks := .later }
def RelRowsUptoCardSaid : Prop := Claim7.holds Tryd.pinned (.plain (OpenSpec.upto relRowsSpec)) relRowsUptoCard
end Rows
end Go.Proofs.YtjjlbfamfioofaaDoor
