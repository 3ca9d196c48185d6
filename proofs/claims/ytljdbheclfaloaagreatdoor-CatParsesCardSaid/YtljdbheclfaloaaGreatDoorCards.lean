/-
  DERIVED. GIVEN WITH THE SEED: THE CARDS: each row of YtljdbheclfaloaaGreatDoorRows.lean that lists a variable, with what it lists TIED to the program's text (the seventh form; the later family's looks); each row that meets fmt, with fmt's text TOLD by the authors' own Lean function (tested against real Go, not proved from fmt's source: count such statements apart). THE CARD IS WHAT COUNTS. Prove the row's statement (the work); the ties are given (YtljdbheclfaloaaGreatDoorTie.lean); close each card by the builder's one call (the guide's Derived/Test/ToyasCard.lean, 'card_holds'). Laid BY PROGRAM, IN A SANDBOX (cutbox-door.mjs). By AI agents, Wed Nov 11 2026. No macro, syntax, notation, axiom, sorry.
-/
import Derived.Test.YtljdbheclfaloaaGreatDoorRows
import GoSem.ClaimSeven
namespace Go.Proofs.YtljdbheclfaloaaGreatDoor
namespace Rows

/-- THE TIED CARD OF 'belatedlaw12.CatParses'. -/
def catParsesCard : Claim7 := { stood := { row := catParsesRow, standIns := [], harness := (true, "02a5f903b8a4ab1d52bed3920cbc4884f00e6045e341d3883358339d422c6e18"), looks := true }, kinds := [], alts := [], laidByText := true, laidKinds := [.data, .data, .data, .sentinel, .sentinel], laidTests := true, laidLooks := .later }
def CatParsesCardSaid : Prop := Claim7.holds Tryz.pinned (.plain (OpenSpec.ofChange catParsesSpec)) catParsesCard

/-- THE TIED CARD OF 'belatedlaw12.CatMore'. -/
def catMoreCard : Claim7 := { stood := { row := catMoreRow, standIns := [], harness := (true, "02a5f903b8a4ab1d52bed3920cbc4884f00e6045e341d3883358339d422c6e18"), looks := true }, kinds := [], alts := [], laidByText := true, laidKinds := [.data, .data, .data, .sentinel, .sentinel], laidTests := true, laidLooks := .later }
def CatMoreCardSaid : Prop := Claim7.holds Tryz.pinned (.plain (OpenSpec.ofChange catMoreSpec)) catMoreCard

/-- THE TIED CARD OF 'belatedlaw12.CatHolds'. -/
def catHoldsCard : Claim7 := { stood := { row := catHoldsRow, standIns := [], harness := (true, "02a5f903b8a4ab1d52bed3920cbc4884f00e6045e341d3883358339d422c6e18"), looks := true }, kinds := [], alts := [], laidByText := true, laidKinds := [.data, .data, .data, .sentinel, .sentinel], laidTests := true, laidLooks := .later }
def CatHoldsCardSaid : Prop := Claim7.holds Tryz.pinned (.plain (OpenSpec.ofChange catHoldsSpec)) catHoldsCard

/-- THE TIED CARD OF 'belatedlaw12.CatBrackets'. -/
def catBracketsCard : Claim7 := { stood := { row := catBracketsRow, standIns := [], harness := (true, "02a5f903b8a4ab1d52bed3920cbc4884f00e6045e341d3883358339d422c6e18"), looks := true }, kinds := [], alts := [], laidByText := true, laidKinds := [.data, .data, .data, .sentinel, .sentinel], laidTests := true, laidLooks := .later }
def CatBracketsCardSaid : Prop := Claim7.holds Tryz.pinned (.plain (OpenSpec.ofChange catBracketsSpec)) catBracketsCard

/-- THE TIED CARD OF 'belatedlaw12.CatLeast'. -/
def catLeastCard : Claim7 := { stood := { row := catLeastRow, standIns := [], harness := (true, "02a5f903b8a4ab1d52bed3920cbc4884f00e6045e341d3883358339d422c6e18"), looks := true }, kinds := [], alts := [], laidByText := true, laidKinds := [.data, .data, .data, .sentinel, .sentinel], laidTests := true, laidLooks := .later }
def CatLeastCardSaid : Prop := Claim7.holds Tryz.pinned (.plain (OpenSpec.ofChange catLeastSpec)) catLeastCard

/-- THE TIED CARD OF 'belatedlaw12.CatMeans'. -/
def catMeansCard : Claim7 := { stood := { row := catMeansRow, standIns := [], harness := (true, "02a5f903b8a4ab1d52bed3920cbc4884f00e6045e341d3883358339d422c6e18"), looks := true }, kinds := [], alts := [], laidByText := true, laidKinds := [.data, .data, .data, .sentinel, .sentinel], laidTests := true, laidLooks := .later }
def CatMeansCardSaid : Prop := Claim7.holds Tryz.pinned (.plain (OpenSpec.ofChange catMeansSpec)) catMeansCard

/-- THE SECOND FORM's CARD OF 'belatedlaw12.CatParses'. -/
def catParsesUptoCard : Claim7 := { stood := { row := catParsesUptoRow, standIns := [], harness := (true, "02a5f903b8a4ab1d52bed3920cbc4884f00e6045e341d3883358339d422c6e18"), looks := true }, kinds := [], alts := [], laidByText := true, laidKinds := [.data, .data, .data, .sentinel, .sentinel], laidTests := true, laidLooks := .later }
def CatParsesUptoCardSaid : Prop := Claim7.holds Tryz.pinned (.plain (OpenSpec.upto catParsesSpec)) catParsesUptoCard

/-- THE SECOND FORM's CARD OF 'belatedlaw12.CatMore'. -/
def catMoreUptoCard : Claim7 := { stood := { row := catMoreUptoRow, standIns := [], harness := (true, "02a5f903b8a4ab1d52bed3920cbc4884f00e6045e341d3883358339d422c6e18"), looks := true }, kinds := [], alts := [], laidByText := true, laidKinds := [.data, .data, .data, .sentinel, .sentinel], laidTests := true, laidLooks := .later }
def CatMoreUptoCardSaid : Prop := Claim7.holds Tryz.pinned (.plain (OpenSpec.upto catMoreSpec)) catMoreUptoCard

/-- THE SECOND FORM's CARD OF 'belatedlaw12.CatHolds'. -/
def catHoldsUptoCard : Claim7 := { stood := { row := catHoldsUptoRow, standIns := [], harness := (true, "02a5f903b8a4ab1d52bed3920cbc4884f00e6045e341d3883358339d422c6e18"), looks := true }, kinds := [], alts := [], laidByText := true, laidKinds := [.data, .data, .data, .sentinel, .sentinel], laidTests := true, laidLooks := .later }
def CatHoldsUptoCardSaid : Prop := Claim7.holds Tryz.pinned (.plain (OpenSpec.upto catHoldsSpec)) catHoldsUptoCard

/-- THE SECOND FORM's CARD OF 'belatedlaw12.CatBrackets'. -/
def catBracketsUptoCard : Claim7 := { stood := { row := catBracketsUptoRow, standIns := [], harness := (true, "02a5f903b8a4ab1d52bed3920cbc4884f00e6045e341d3883358339d422c6e18"), looks := true }, kinds := [], alts := [], laidByText := true, laidKinds := [.data, .data, .data, .sentinel, .sentinel], laidTests := true, laidLooks := .later }
def CatBracketsUptoCardSaid : Prop := Claim7.holds Tryz.pinned (.plain (OpenSpec.upto catBracketsSpec)) catBracketsUptoCard

/-- THE SECOND FORM's CARD OF 'belatedlaw12.CatLeast'. -/
def catLeastUptoCard : Claim7 := { stood := { row := catLeastUptoRow, standIns := [], harness := (true, "02a5f903b8a4ab1d52bed3920cbc4884f00e6045e341d3883358339d422c6e18"), looks := true }, kinds := [], alts := [], laidByText := true, laidKinds := [.data, .data, .data, .sentinel, .sentinel], laidTests := true, laidLooks := .later }
def CatLeastUptoCardSaid : Prop := Claim7.holds Tryz.pinned (.plain (OpenSpec.upto catLeastSpec)) catLeastUptoCard

/-- THE SECOND FORM's CARD OF 'belatedlaw12.CatMeans'. -/
def catMeansUptoCard : Claim7 := { stood := { row := catMeansUptoRow, standIns := [], harness := (true, "02a5f903b8a4ab1d52bed3920cbc4884f00e6045e341d3883358339d422c6e18"), looks := true }, kinds := [], alts := [], laidByText := true, laidKinds := [.data, .data, .data, .sentinel, .sentinel], laidTests := true, laidLooks := .later }
def CatMeansUptoCardSaid : Prop := Claim7.holds Tryz.pinned (.plain (OpenSpec.upto catMeansSpec)) catMeansUptoCard
end Rows
end Go.Proofs.YtljdbheclfaloaaGreatDoor
