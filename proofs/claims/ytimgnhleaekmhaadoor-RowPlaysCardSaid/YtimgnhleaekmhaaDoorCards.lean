/-
  DERIVED. GIVEN WITH THE SEED: THE CARDS: each row of YtimgnhleaekmhaaDoorRows.lean that lists a variable, with what it lists TIED to the program's text (the seventh form; the later family's looks); each row that meets fmt, with fmt's text TOLD by the authors' own Lean function (tested against real Go, not proved from fmt's source: count such statements apart). THE CARD IS WHAT COUNTS. Prove the row's statement (the work); the ties are given (YtimgnhleaekmhaaDoorTie.lean); close each card by the builder's one call (the guide's Derived/Test/ToyasCard.lean, 'card_holds'). Laid BY PROGRAM, IN A SANDBOX (cutbox-door.mjs). By AI agents, Wed Nov 11 2026. No macro, syntax, notation, axiom, sorry.
-/
import Derived.Test.YtimgnhleaekmhaaDoorRows
import GoSem.ClaimSeven
namespace Go.Proofs.YtimgnhleaekmhaaDoor
namespace Rows

/-- THE TIED CARD OF 'centolaw1.RowPlaces'. -/
def rowPlacesCard : Claim7 := { stood := { row := rowPlacesRow, standIns := [], harness := (true, "9e9ba44d933a7f20e0284c36fd5894acf154f0b9efcc9541d1835b2630e191a8"), looks := false }, kinds := [], alts := [], laidByText := true, laidKinds := [.data], laidTests := true, laidLooks := .later }
def RowPlacesCardSaid : Prop := Claim7.holds Tryd.pinned (.plain (OpenSpec.ofChange rowPlacesSpec)) rowPlacesCard

/-- THE TIED CARD OF 'centolaw1.RowPlays'. -/
def rowPlaysCard : Claim7 := { stood := { row := rowPlaysRow, standIns := [], harness := (true, "9e9ba44d933a7f20e0284c36fd5894acf154f0b9efcc9541d1835b2630e191a8"), looks := false }, kinds := [], alts := [], laidByText := true, laidKinds := [.data], laidTests := true, laidLooks := .later }
def RowPlaysCardSaid : Prop := Claim7.holds Tryd.pinned (.plain (OpenSpec.ofChange rowPlaysSpec)) rowPlaysCard

/-- THE TIED CARD OF 'centolaw1.RowSets'. -/
def rowSetsCard : Claim7 := { stood := { row := rowSetsRow, standIns := [], harness := (true, "9e9ba44d933a7f20e0284c36fd5894acf154f0b9efcc9541d1835b2630e191a8"), looks := false }, kinds := [], alts := [], laidByText := true, laidKinds := [.data], laidTests := true, laidLooks := .later }
def RowSetsCardSaid : Prop := Claim7.holds Tryd.pinned (.plain (OpenSpec.ofChange rowSetsSpec)) rowSetsCard

/-- THE TIED CARD OF 'centolaw1.RowLengths'. -/
def rowLengthsCard : Claim7 := { stood := { row := rowLengthsRow, standIns := [], harness := (true, "9e9ba44d933a7f20e0284c36fd5894acf154f0b9efcc9541d1835b2630e191a8"), looks := false }, kinds := [], alts := [], laidByText := true, laidKinds := [.data], laidTests := true, laidLooks := .later }
def RowLengthsCardSaid : Prop := Claim7.holds Tryd.pinned (.plain (OpenSpec.ofChange rowLengthsSpec)) rowLengthsCard

/-- THE SECOND FORM's CARD OF 'centolaw1.RowPlaces'. -/
def rowPlacesUptoCard : Claim7 := { stood := { row := rowPlacesUptoRow, standIns := [], harness := (true, "9e9ba44d933a7f20e0284c36fd5894acf154f0b9efcc9541d1835b2630e191a8"), looks := false }, kinds := [], alts := [], laidByText := true, laidKinds := [.data], laidTests := true, laidLooks := .later }
def RowPlacesUptoCardSaid : Prop := Claim7.holds Tryd.pinned (.plain (OpenSpec.upto rowPlacesSpec)) rowPlacesUptoCard

/-- THE SECOND FORM's CARD OF 'centolaw1.RowPlays'. -/
def rowPlaysUptoCard : Claim7 := { stood := { row := rowPlaysUptoRow, standIns := [], harness := (true, "9e9ba44d933a7f20e0284c36fd5894acf154f0b9efcc9541d1835b2630e191a8"), looks := false }, kinds := [], alts := [], laidByText := true, laidKinds := [.data], laidTests := true, laidLooks := .later }
def RowPlaysUptoCardSaid : Prop := Claim7.holds Tryd.pinned (.plain (OpenSpec.upto rowPlaysSpec)) rowPlaysUptoCard

/-- THE SECOND FORM's CARD OF 'centolaw1.RowSets'. -/
def rowSetsUptoCard : Claim7 := { stood := { row := rowSetsUptoRow, standIns := [], harness := (true, "9e9ba44d933a7f20e0284c36fd5894acf154f0b9efcc9541d1835b2630e191a8"), looks := false }, kinds := [], alts := [], laidByText := true, laidKinds := [.data], laidTests := true, laidLooks := .later }
def RowSetsUptoCardSaid : Prop := Claim7.holds Tryd.pinned (.plain (OpenSpec.upto rowSetsSpec)) rowSetsUptoCard

/-- THE SECOND FORM's CARD OF 'centolaw1.RowLengths'. -/
def rowLengthsUptoCard : Claim7 := { stood := { row := rowLengthsUptoRow, standIns := [], harness := (true, "9e9ba44d933a7f20e0284c36fd5894acf154f0b9efcc9541d1835b2630e191a8"), looks := false }, kinds := [], alts := [], laidByText := true, laidKinds := [.data], laidTests := true, laidLooks := .later }
def RowLengthsUptoCardSaid : Prop := Claim7.holds Tryd.pinned (.plain (OpenSpec.upto rowLengthsSpec)) rowLengthsUptoCard
end Rows
end Go.Proofs.YtimgnhleaekmhaaDoor
