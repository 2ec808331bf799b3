/-
  DERIVED. GIVEN WITH THE SEED: THE CARDS: each row of YteijgmmjgbgffaaDoorRows.lean that lists a variable, with what it lists TIED to the program's text (the seventh form; the later family's looks); each row that meets fmt, with fmt's text TOLD by the authors' own Lean function (tested against real Go, not proved from fmt's source: count such statements apart). THE CARD IS WHAT COUNTS. Prove the row's statement (the work); the ties are given (YteijgmmjgbgffaaDoorTie.lean); close each card by the builder's one call (the guide's Derived/Test/ToyasCard.lean, 'card_holds'). Laid BY PROGRAM, IN A SANDBOX (cutbox-door.mjs). By AI agents, Wed Nov 11 2026. No macro, syntax, notation, axiom, sorry.
-/
import Derived.Test.YteijgmmjgbgffaaDoorRows
import GoSem.ClaimSeven
namespace Go.Proofs.YteijgmmjgbgffaaDoor
namespace Rows

/-- THE TIED CARD OF 'centolaw4.ObjMakes'. -/
def objMakesCard : Claim7 := { stood := { row := objMakesRow, standIns := [], harness := (true, "f1eba887bf2a15496a222adcf75d60a0462008cefa76589392225645476a6e39"), looks := false }, kinds := [], alts := [], laidByText := true, laidKinds := [.data], laidTests := true, laidLooks := .later }
def ObjMakesCardSaid : Prop := Claim7.holds Tryd.pinned (.plain (OpenSpec.ofChange objMakesSpec)) objMakesCard

/-- THE TIED CARD OF 'centolaw4.ObjLarge'. -/
def objLargeCard : Claim7 := { stood := { row := objLargeRow, standIns := [], harness := (true, "f1eba887bf2a15496a222adcf75d60a0462008cefa76589392225645476a6e39"), looks := false }, kinds := [], alts := [], laidByText := true, laidKinds := [.data], laidTests := true, laidLooks := .later }
def ObjLargeCardSaid : Prop := Claim7.holds Tryd.pinned (.plain (OpenSpec.ofChange objLargeSpec)) objLargeCard

/-- THE TIED CARD OF 'centolaw4.ObjTells'. -/
def objTellsCard : Claim7 := { stood := { row := objTellsRow, standIns := [], harness := (true, "f1eba887bf2a15496a222adcf75d60a0462008cefa76589392225645476a6e39"), looks := false }, kinds := [], alts := [], laidByText := true, laidKinds := [.data], laidTests := true, laidLooks := .later }
def ObjTellsCardSaid : Prop := Claim7.holds Tryd.pinned (.plain (OpenSpec.ofChange objTellsSpec)) objTellsCard

/-- THE TIED CARD OF 'centolaw4.ObjSpoils'. -/
def objSpoilsCard : Claim7 := { stood := { row := objSpoilsRow, standIns := [], harness := (true, "f1eba887bf2a15496a222adcf75d60a0462008cefa76589392225645476a6e39"), looks := false }, kinds := [], alts := [], laidByText := true, laidKinds := [.data], laidTests := true, laidLooks := .later }
def ObjSpoilsCardSaid : Prop := Claim7.holds Tryd.pinned (.plain (OpenSpec.ofChange objSpoilsSpec)) objSpoilsCard

/-- THE TIED CARD OF 'centolaw14.ViewTells'. -/
def viewTellsCard : Claim7 := { stood := { row := viewTellsRow, standIns := [], harness := (true, "f1eba887bf2a15496a222adcf75d60a0462008cefa76589392225645476a6e39"), looks := false }, kinds := [], alts := [], laidByText := true, laidKinds := [.data], laidTests := true, laidLooks := .later }
def ViewTellsCardSaid : Prop := Claim7.holds Tryd.pinned (.plain (OpenSpec.ofChange viewTellsSpec)) viewTellsCard

/-- THE TIED CARD OF 'centolaw14.ViewPlain'. -/
def viewPlainCard : Claim7 := { stood := { row := viewPlainRow, standIns := [], harness := (true, "f1eba887bf2a15496a222adcf75d60a0462008cefa76589392225645476a6e39"), looks := false }, kinds := [], alts := [], laidByText := true, laidKinds := [.data], laidTests := true, laidLooks := .later }
def ViewPlainCardSaid : Prop := Claim7.holds Tryd.pinned (.plain (OpenSpec.ofChange viewPlainSpec)) viewPlainCard

/-- THE TIED CARD OF 'centolaw14.ViewChains'. -/
def viewChainsCard : Claim7 := { stood := { row := viewChainsRow, standIns := [], harness := (true, "f1eba887bf2a15496a222adcf75d60a0462008cefa76589392225645476a6e39"), looks := false }, kinds := [], alts := [], laidByText := true, laidKinds := [.data], laidTests := true, laidLooks := .later }
def ViewChainsCardSaid : Prop := Claim7.holds Tryd.pinned (.plain (OpenSpec.ofChange viewChainsSpec)) viewChainsCard

/-- THE TIED CARD OF 'centolaw14.ViewRings'. -/
def viewRingsCard : Claim7 := { stood := { row := viewRingsRow, standIns := [], harness := (true, "f1eba887bf2a15496a222adcf75d60a0462008cefa76589392225645476a6e39"), looks := false }, kinds := [], alts := [], laidByText := true, laidKinds := [.data], laidTests := true, laidLooks := .later }
def ViewRingsCardSaid : Prop := Claim7.holds Tryd.pinned (.plain (OpenSpec.ofChange viewRingsSpec)) viewRingsCard

/-- THE TIED CARD OF 'centolaw14.ViewThrough'. -/
def viewThroughCard : Claim7 := { stood := { row := viewThroughRow, standIns := [], harness := (true, "f1eba887bf2a15496a222adcf75d60a0462008cefa76589392225645476a6e39"), looks := false }, kinds := [], alts := [], laidByText := true, laidKinds := [.data], laidTests := true, laidLooks := .later }
def ViewThroughCardSaid : Prop := Claim7.holds Tryd.pinned (.plain (OpenSpec.ofChange viewThroughSpec)) viewThroughCard

/-- THE SECOND FORM's CARD OF 'centolaw4.ObjMakes'. -/
def objMakesUptoCard : Claim7 := { stood := { row := objMakesUptoRow, standIns := [], harness := (true, "f1eba887bf2a15496a222adcf75d60a0462008cefa76589392225645476a6e39"), looks := false }, kinds := [], alts := [], laidByText := true, laidKinds := [.data], laidTests := true, laidLooks := .later }
def ObjMakesUptoCardSaid : Prop := Claim7.holds Tryd.pinned (.plain (OpenSpec.upto objMakesSpec)) objMakesUptoCard

/-- THE SECOND FORM's CARD OF 'centolaw4.ObjLarge'. -/
def objLargeUptoCard : Claim7 := { stood := { row := objLargeUptoRow, standIns := [], harness := (true, "f1eba887bf2a15496a222adcf75d60a0462008cefa76589392225645476a6e39"), looks := false }, kinds := [], alts := [], laidByText := true, laidKinds := [.data], laidTests := true, laidLooks := .later }
def ObjLargeUptoCardSaid : Prop := Claim7.holds Tryd.pinned (.plain (OpenSpec.upto objLargeSpec)) objLargeUptoCard

/-- THE SECOND FORM's CARD OF 'centolaw4.ObjTells'. -/
def objTellsUptoCard : Claim7 := { stood := { row := objTellsUptoRow, standIns := [], harness := (true, "f1eba887bf2a15496a222adcf75d60a0462008cefa76589392225645476a6e39"), looks := false }, kinds := [], alts := [], laidByText := true, laidKinds := [.data], laidTests := true, laidLooks := .later }
def ObjTellsUptoCardSaid : Prop := Claim7.holds Tryd.pinned (.plain (OpenSpec.upto objTellsSpec)) objTellsUptoCard

/-- THE SECOND FORM's CARD OF 'centolaw4.ObjSpoils'. -/
def objSpoilsUptoCard : Claim7 := { stood := { row := objSpoilsUptoRow, standIns := [], harness := (true, "f1eba887bf2a15496a222adcf75d60a0462008cefa76589392225645476a6e39"), looks := false }, kinds := [], alts := [], laidByText := true, laidKinds := [.data], laidTests := true, laidLooks := .later }
def ObjSpoilsUptoCardSaid : Prop := Claim7.holds Tryd.pinned (.plain (OpenSpec.upto objSpoilsSpec)) objSpoilsUptoCard

/-- THE SECOND FORM's CARD OF 'centolaw14.ViewTells'. -/
def viewTellsUptoCard : Claim7 := { stood := { row := viewTellsUptoRow, standIns := [], harness := (true, "f1eba887bf2a15496a222adcf75d60a0462008cefa76589392225645476a6e39"), looks := false }, kinds := [], alts := [], laidByText := true, laidKinds := [.data], laidTests := true, laidLooks := .later }
def ViewTellsUptoCardSaid : Prop := Claim7.holds Tryd.pinned (.plain (OpenSpec.upto viewTellsSpec)) viewTellsUptoCard

/-- THE SECOND FORM's CARD OF 'centolaw14.ViewPlain'. -/
def viewPlainUptoCard : Claim7 := { stood := { row := viewPlainUptoRow, standIns := [], harness := (true, "f1eba887bf2a15496a222adcf75d60a0462008cefa76589392225645476a6e39"), looks := false }, kinds := [], alts := [], laidByText := true, laidKinds := [.data], laidTests := true, laidLooks := .later }
def ViewPlainUptoCardSaid : Prop := Claim7.holds Tryd.pinned (.plain (OpenSpec.upto viewPlainSpec)) viewPlainUptoCard

/-- THE SECOND FORM's CARD OF 'centolaw14.ViewChains'. -/
def viewChainsUptoCard : Claim7 := { stood := { row := viewChainsUptoRow, standIns := [], harness := (true, "f1eba887bf2a15496a222adcf75d60a0462008cefa76589392225645476a6e39"), looks := false }, kinds := [], alts := [], laidByText := true, laidKinds := [.data], laidTests := true, laidLooks := .later }
def ViewChainsUptoCardSaid : Prop := Claim7.holds Tryd.pinned (.plain (OpenSpec.upto viewChainsSpec)) viewChainsUptoCard

/-- THE SECOND FORM's CARD OF 'centolaw14.ViewRings'. -/
def viewRingsUptoCard : Claim7 := { stood := { row := viewRingsUptoRow, standIns := [], harness := (true, "f1eba887bf2a15496a222adcf75d60a0462008cefa76589392225645476a6e39"), looks := false }, kinds := [], alts := [], laidByText := true, laidKinds := [.data], laidTests := true, laidLooks := .later }
def ViewRingsUptoCardSaid : Prop := Claim7.holds Tryd.pinned (.plain (OpenSpec.upto viewRingsSpec)) viewRingsUptoCard

/-- THE SECOND FORM's CARD OF 'centolaw14.ViewThrough'. -/
def viewThroughUptoCard : Claim7 := { stood := { row := viewThroughUptoRow, standIns := [], harness := (true, "f1eba887bf2a15496a222adcf75d60a0462008cefa76589392225645476a6e39"), looks := false }, kinds := [], alts := [], laidByText := true, laidKinds := [.data], laidTests := true, laidLooks := .later }
def ViewThroughUptoCardSaid : Prop := Claim7.holds Tryd.pinned (.plain (OpenSpec.upto viewThroughSpec)) viewThroughUptoCard
end Rows
end Go.Proofs.YteijgmmjgbgffaaDoor
