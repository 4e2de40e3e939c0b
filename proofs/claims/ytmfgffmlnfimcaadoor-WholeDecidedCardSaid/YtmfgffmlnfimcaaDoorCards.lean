/-
  DERIVED. GIVEN WITH THE SEED: THE CARDS: each row of YtmfgffmlnfimcaaDoorRows.lean that lists a variable, with what it lists TIED to the program's text (the seventh form; the later family's looks); each row that meets fmt, with fmt's text TOLD by the authors' own Lean function (tested against real Go, not proved from fmt's source: count such statements apart). THE CARD IS WHAT COUNTS. Prove the row's statement (the work); the ties are given (YtmfgffmlnfimcaaDoorTie.lean); close each card by the builder's one call (the guide's Derived/Test/ToyasCard.lean, 'card_holds'). Laid BY PROGRAM, IN A SANDBOX (cutbox-door.mjs). By AI agents, Wed Nov 11 2026. No macro, syntax, notation, axiom, sorry.
-/
import Derived.Test.YtmfgffmlnfimcaaDoorRows
import GoSem.ClaimSeven
namespace Go.Proofs.YtmfgffmlnfimcaaDoor
namespace Rows

/-- THE TIED CARD OF 'kurgantop.WholeDecided'. -/
def wholeDecidedCard : Claim7 := { stood := { row := wholeDecidedRow, standIns := [], harness := (true, "2514c8cd197cd6ab843bb92557865283bc8e4268c68a6b7cee637b0a63236732"), looks := false }, kinds := [], alts := [], laidByText := true, laidKinds := [.data], laidTests := true, laidLooks := .later }
def WholeDecidedCardSaid : Prop := Claim7.holds Tryd.pinned (.plain (OpenSpec.ofChange wholeDecidedSpec)) wholeDecidedCard

/-- THE TIED CARD OF 'kurgantop.WholeBeside'. -/
def wholeBesideCard : Claim7 := { stood := { row := wholeBesideRow, standIns := [], harness := (true, "2514c8cd197cd6ab843bb92557865283bc8e4268c68a6b7cee637b0a63236732"), looks := false }, kinds := [], alts := [], laidByText := true, laidKinds := [.data], laidTests := true, laidLooks := .later }
def WholeBesideCardSaid : Prop := Claim7.holds Tryd.pinned (.plain (OpenSpec.ofChange wholeBesideSpec)) wholeBesideCard

/-- THE TIED CARD OF 'kurgantop.WholeNumbered'. -/
def wholeNumberedCard : Claim7 := { stood := { row := wholeNumberedRow, standIns := [], harness := (true, "2514c8cd197cd6ab843bb92557865283bc8e4268c68a6b7cee637b0a63236732"), looks := false }, kinds := [], alts := [], laidByText := true, laidKinds := [.data], laidTests := true, laidLooks := .later }
def WholeNumberedCardSaid : Prop := Claim7.holds Tryd.pinned (.plain (OpenSpec.ofChange wholeNumberedSpec)) wholeNumberedCard

/-- THE TIED CARD OF 'kurgantop.WholeTurned'. -/
def wholeTurnedCard : Claim7 := { stood := { row := wholeTurnedRow, standIns := [], harness := (true, "2514c8cd197cd6ab843bb92557865283bc8e4268c68a6b7cee637b0a63236732"), looks := false }, kinds := [], alts := [], laidByText := true, laidKinds := [.data], laidTests := true, laidLooks := .later }
def WholeTurnedCardSaid : Prop := Claim7.holds Tryd.pinned (.plain (OpenSpec.ofChange wholeTurnedSpec)) wholeTurnedCard

/-- THE TIED CARD OF 'kurgantop.WholeRaised'. -/
def wholeRaisedCard : Claim7 := { stood := { row := wholeRaisedRow, standIns := [], harness := (true, "2514c8cd197cd6ab843bb92557865283bc8e4268c68a6b7cee637b0a63236732"), looks := false }, kinds := [], alts := [], laidByText := true, laidKinds := [.data], laidTests := true, laidLooks := .later }
def WholeRaisedCardSaid : Prop := Claim7.holds Tryd.pinned (.plain (OpenSpec.ofChange wholeRaisedSpec)) wholeRaisedCard

/-- THE SECOND FORM's CARD OF 'kurgantop.WholeDecided'. -/
def wholeDecidedUptoCard : Claim7 := { stood := { row := wholeDecidedUptoRow, standIns := [], harness := (true, "2514c8cd197cd6ab843bb92557865283bc8e4268c68a6b7cee637b0a63236732"), looks := false }, kinds := [], alts := [], laidByText := true, laidKinds := [.data], laidTests := true, laidLooks := .later }
def WholeDecidedUptoCardSaid : Prop := Claim7.holds Tryd.pinned (.plain (OpenSpec.upto wholeDecidedSpec)) wholeDecidedUptoCard

/-- THE SECOND FORM's CARD OF 'kurgantop.WholeBeside'. -/
def wholeBesideUptoCard : Claim7 := { stood := { row := wholeBesideUptoRow, standIns := [], harness := (true, "2514c8cd197cd6ab843bb92557865283bc8e4268c68a6b7cee637b0a63236732"), looks := false }, kinds := [], alts := [], laidByText := true, laidKinds := [.data], laidTests := true, laidLooks := .later }
def WholeBesideUptoCardSaid : Prop := Claim7.holds Tryd.pinned (.plain (OpenSpec.upto wholeBesideSpec)) wholeBesideUptoCard

/-- THE SECOND FORM's CARD OF 'kurgantop.WholeNumbered'. -/
def wholeNumberedUptoCard : Claim7 := { stood := { row := wholeNumberedUptoRow, standIns := [], harness := (true, "2514c8cd197cd6ab843bb92557865283bc8e4268c68a6b7cee637b0a63236732"), looks := false }, kinds := [], alts := [], laidByText := true, laidKinds := [.data], laidTests := true, laidLooks := .later }
def WholeNumberedUptoCardSaid : Prop := Claim7.holds Tryd.pinned (.plain (OpenSpec.upto wholeNumberedSpec)) wholeNumberedUptoCard

/-- THE SECOND FORM's CARD OF 'kurgantop.WholeTurned'. -/
def wholeTurnedUptoCard : Claim7 := { stood := { row := wholeTurnedUptoRow, standIns := [], harness := (true, "2514c8cd197cd6ab843bb92557865283bc8e4268c68a6b7cee637b0a63236732"), looks := false }, kinds := [], alts := [], laidByText := true, laidKinds := [.data], laidTests := true, laidLooks := .later }
def WholeTurnedUptoCardSaid : Prop := Claim7.holds Tryd.pinned (.plain (OpenSpec.upto wholeTurnedSpec)) wholeTurnedUptoCard

/-- THE SECOND FORM's CARD OF 'kurgantop.WholeRaised'. -/
def wholeRaisedUptoCard : Claim7 := { stood := { row := wholeRaisedUptoRow, standIns := [], harness := (true, "2514c8cd197cd6ab843bb92557865283bc8e4268c68a6b7cee637b0a63236732"), looks := false }, kinds := [], alts := [], laidByText := true, laidKinds := [.data], laidTests := true, laidLooks := .later }
def WholeRaisedUptoCardSaid : Prop := Claim7.holds Tryd.pinned (.plain (OpenSpec.upto wholeRaisedSpec)) wholeRaisedUptoCard
end Rows
end Go.Proofs.YtmfgffmlnfimcaaDoor
