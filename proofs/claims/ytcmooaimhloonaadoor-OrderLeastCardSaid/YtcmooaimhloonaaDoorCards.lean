/-
  DERIVED. GIVEN WITH THE SEED: THE CARDS: each row of YtcmooaimhloonaaDoorRows.lean that lists a variable, with what it lists TIED to the program's text (the seventh form; the later family's looks); each row that meets fmt, with fmt's text TOLD by the authors' own Lean function (tested against real Go, not proved from fmt's source: count such statements apart). THE CARD IS WHAT COUNTS. Prove the row's statement (the work); the ties are given (YtcmooaimhloonaaDoorTie.lean); close each card by the builder's one call (the guide's Derived/Test/ToyasCard.lean, 'card_holds'). Laid BY PROGRAM, IN A SANDBOX (cutbox-door.mjs). By AI agents, Wed Nov 11 2026. No macro, syntax, notation, axiom, sorry.
-/
import Derived.Test.YtcmooaimhloonaaDoorRows
import GoSem.ClaimSeven
namespace Go.Proofs.YtcmooaimhloonaaDoor
namespace Rows

/-- THE TIED CARD OF 'centolaw2.RelPlays'. -/
def relPlaysCard : Claim7 := { stood := { row := relPlaysRow, standIns := [], harness := (true, "f14aac9e52d846e16b45683151c3010fb29280cfdf5c2d90c2c3a166c41e4a9f"), looks := false }, kinds := [], alts := [], laidByText := true, laidKinds := [.data], laidTests := true, laidLooks := .later }
def RelPlaysCardSaid : Prop := Claim7.holds Tryd.pinned (.plain (OpenSpec.ofChange relPlaysSpec)) relPlaysCard

/-- THE TIED CARD OF 'centolaw2.RelWays'. -/
def relWaysCard : Claim7 := { stood := { row := relWaysRow, standIns := [], harness := (true, "f14aac9e52d846e16b45683151c3010fb29280cfdf5c2d90c2c3a166c41e4a9f"), looks := false }, kinds := [], alts := [], laidByText := true, laidKinds := [.data], laidTests := true, laidLooks := .later }
def RelWaysCardSaid : Prop := Claim7.holds Tryd.pinned (.plain (OpenSpec.ofChange relWaysSpec)) relWaysCard

/-- THE TIED CARD OF 'centolaw2.RelJoins'. -/
def relJoinsCard : Claim7 := { stood := { row := relJoinsRow, standIns := [], harness := (true, "f14aac9e52d846e16b45683151c3010fb29280cfdf5c2d90c2c3a166c41e4a9f"), looks := false }, kinds := [], alts := [], laidByText := true, laidKinds := [.data], laidTests := true, laidLooks := .later }
def RelJoinsCardSaid : Prop := Claim7.holds Tryd.pinned (.plain (OpenSpec.ofChange relJoinsSpec)) relJoinsCard

/-- THE TIED CARD OF 'centolaw2.RelTells'. -/
def relTellsCard : Claim7 := { stood := { row := relTellsRow, standIns := [], harness := (true, "f14aac9e52d846e16b45683151c3010fb29280cfdf5c2d90c2c3a166c41e4a9f"), looks := false }, kinds := [], alts := [], laidByText := true, laidKinds := [.data], laidTests := true, laidLooks := .later }
def RelTellsCardSaid : Prop := Claim7.holds Tryd.pinned (.plain (OpenSpec.ofChange relTellsSpec)) relTellsCard

/-- THE TIED CARD OF 'centolaw2.RelOnly'. -/
def relOnlyCard : Claim7 := { stood := { row := relOnlyRow, standIns := [], harness := (true, "f14aac9e52d846e16b45683151c3010fb29280cfdf5c2d90c2c3a166c41e4a9f"), looks := false }, kinds := [], alts := [], laidByText := true, laidKinds := [.data], laidTests := true, laidLooks := .later }
def RelOnlyCardSaid : Prop := Claim7.holds Tryd.pinned (.plain (OpenSpec.ofChange relOnlySpec)) relOnlyCard

/-- THE TIED CARD OF 'centolaw3.OrderTells'. -/
def orderTellsCard : Claim7 := { stood := { row := orderTellsRow, standIns := [], harness := (true, "f14aac9e52d846e16b45683151c3010fb29280cfdf5c2d90c2c3a166c41e4a9f"), looks := false }, kinds := [], alts := [], laidByText := true, laidKinds := [.data], laidTests := true, laidLooks := .later }
def OrderTellsCardSaid : Prop := Claim7.holds Tryd.pinned (.plain (OpenSpec.ofChange orderTellsSpec)) orderTellsCard

/-- THE TIED CARD OF 'centolaw3.OrderSorted'. -/
def orderSortedCard : Claim7 := { stood := { row := orderSortedRow, standIns := [], harness := (true, "f14aac9e52d846e16b45683151c3010fb29280cfdf5c2d90c2c3a166c41e4a9f"), looks := false }, kinds := [], alts := [], laidByText := true, laidKinds := [.data], laidTests := true, laidLooks := .later }
def OrderSortedCardSaid : Prop := Claim7.holds Tryd.pinned (.plain (OpenSpec.ofChange orderSortedSpec)) orderSortedCard

/-- THE TIED CARD OF 'centolaw3.OrderClasses'. -/
def orderClassesCard : Claim7 := { stood := { row := orderClassesRow, standIns := [], harness := (true, "f14aac9e52d846e16b45683151c3010fb29280cfdf5c2d90c2c3a166c41e4a9f"), looks := false }, kinds := [], alts := [], laidByText := true, laidKinds := [.data], laidTests := true, laidLooks := .later }
def OrderClassesCardSaid : Prop := Claim7.holds Tryd.pinned (.plain (OpenSpec.ofChange orderClassesSpec)) orderClassesCard

/-- THE TIED CARD OF 'centolaw3.OrderRows'. -/
def orderRowsCard : Claim7 := { stood := { row := orderRowsRow, standIns := [], harness := (true, "f14aac9e52d846e16b45683151c3010fb29280cfdf5c2d90c2c3a166c41e4a9f"), looks := false }, kinds := [], alts := [], laidByText := true, laidKinds := [.data], laidTests := true, laidLooks := .later }
def OrderRowsCardSaid : Prop := Claim7.holds Tryd.pinned (.plain (OpenSpec.ofChange orderRowsSpec)) orderRowsCard

/-- THE TIED CARD OF 'centolaw3.OrderLeast'. -/
def orderLeastCard : Claim7 := { stood := { row := orderLeastRow, standIns := [], harness := (true, "f14aac9e52d846e16b45683151c3010fb29280cfdf5c2d90c2c3a166c41e4a9f"), looks := false }, kinds := [], alts := [], laidByText := true, laidKinds := [.data], laidTests := true, laidLooks := .later }
def OrderLeastCardSaid : Prop := Claim7.holds Tryd.pinned (.plain (OpenSpec.ofChange orderLeastSpec)) orderLeastCard

/-- THE SECOND FORM's CARD OF 'centolaw2.RelPlays'. -/
def relPlaysUptoCard : Claim7 := { stood := { row := relPlaysUptoRow, standIns := [], harness := (true, "f14aac9e52d846e16b45683151c3010fb29280cfdf5c2d90c2c3a166c41e4a9f"), looks := false }, kinds := [], alts := [], laidByText := true, laidKinds := [.data], laidTests := true, laidLooks := .later }
def RelPlaysUptoCardSaid : Prop := Claim7.holds Tryd.pinned (.plain (OpenSpec.upto relPlaysSpec)) relPlaysUptoCard

/-- THE SECOND FORM's CARD OF 'centolaw2.RelWays'. -/
def relWaysUptoCard : Claim7 := { stood := { row := relWaysUptoRow, standIns := [], harness := (true, "f14aac9e52d846e16b45683151c3010fb29280cfdf5c2d90c2c3a166c41e4a9f"), looks := false }, kinds := [], alts := [], laidByText := true, laidKinds := [.data], laidTests := true, laidLooks := .later }
def RelWaysUptoCardSaid : Prop := Claim7.holds Tryd.pinned (.plain (OpenSpec.upto relWaysSpec)) relWaysUptoCard

/-- THE SECOND FORM's CARD OF 'centolaw2.RelJoins'. -/
def relJoinsUptoCard : Claim7 := { stood := { row := relJoinsUptoRow, standIns := [], harness := (true, "f14aac9e52d846e16b45683151c3010fb29280cfdf5c2d90c2c3a166c41e4a9f"), looks := false }, kinds := [], alts := [], laidByText := true, laidKinds := [.data], laidTests := true, laidLooks := .later }
def RelJoinsUptoCardSaid : Prop := Claim7.holds Tryd.pinned (.plain (OpenSpec.upto relJoinsSpec)) relJoinsUptoCard

/-- THE SECOND FORM's CARD OF 'centolaw2.RelTells'. -/
def relTellsUptoCard : Claim7 := { stood := { row := relTellsUptoRow, standIns := [], harness := (true, "f14aac9e52d846e16b45683151c3010fb29280cfdf5c2d90c2c3a166c41e4a9f"), looks := false }, kinds := [], alts := [], laidByText := true, laidKinds := [.data], laidTests := true, laidLooks := .later }
def RelTellsUptoCardSaid : Prop := Claim7.holds Tryd.pinned (.plain (OpenSpec.upto relTellsSpec)) relTellsUptoCard

/-- THE SECOND FORM's CARD OF 'centolaw2.RelOnly'. -/
def relOnlyUptoCard : Claim7 := { stood := { row := relOnlyUptoRow, standIns := [], harness := (true, "f14aac9e52d846e16b45683151c3010fb29280cfdf5c2d90c2c3a166c41e4a9f"), looks := false }, kinds := [], alts := [], laidByText := true, laidKinds := [.data], laidTests := true, laidLooks := .later }
def RelOnlyUptoCardSaid : Prop := Claim7.holds Tryd.pinned (.plain (OpenSpec.upto relOnlySpec)) relOnlyUptoCard

/-- THE SECOND FORM's CARD OF 'centolaw3.OrderTells'. -/
def orderTellsUptoCard : Claim7 := { stood := { row := orderTellsUptoRow, standIns := [], harness := (true, "f14aac9e52d846e16b45683151c3010fb29280cfdf5c2d90c2c3a166c41e4a9f"), looks := false }, kinds := [], alts := [], laidByText := true, laidKinds := [.data], laidTests := true, laidLooks := .later }
def OrderTellsUptoCardSaid : Prop := Claim7.holds Tryd.pinned (.plain (OpenSpec.upto orderTellsSpec)) orderTellsUptoCard

/-- THE SECOND FORM's CARD OF 'centolaw3.OrderSorted'. -/
def orderSortedUptoCard : Claim7 := { stood := { row := orderSortedUptoRow, standIns := [], harness := (true, "f14aac9e52d846e16b45683151c3010fb29280cfdf5c2d90c2c3a166c41e4a9f"), looks := false }, kinds := [], alts := [], laidByText := true, laidKinds := [.data], laidTests := true, laidLooks := .later }
def OrderSortedUptoCardSaid : Prop := Claim7.holds Tryd.pinned (.plain (OpenSpec.upto orderSortedSpec)) orderSortedUptoCard

/-- THE SECOND FORM's CARD OF 'centolaw3.OrderClasses'. -/
def orderClassesUptoCard : Claim7 := { stood := { row := orderClassesUptoRow, standIns := [], harness := (true, "f14aac9e52d846e16b45683151c3010fb29280cfdf5c2d90c2c3a166c41e4a9f"), looks := false }, kinds := [], alts := [], laidByText := true, laidKinds := [.data], laidTests := true, laidLooks := .later }
def OrderClassesUptoCardSaid : Prop := Claim7.holds Tryd.pinned (.plain (OpenSpec.upto orderClassesSpec)) orderClassesUptoCard

/-- THE SECOND FORM's CARD OF 'centolaw3.OrderRows'. -/
def orderRowsUptoCard : Claim7 := { stood := { row := orderRowsUptoRow, standIns := [], harness := (true, "f14aac9e52d846e16b45683151c3010fb29280cfdf5c2d90c2c3a166c41e4a9f"), looks := false }, kinds := [], alts := [], laidByText := true, laidKinds := [.data], laidTests := true, laidLooks := .later }
def OrderRowsUptoCardSaid : Prop := Claim7.holds Tryd.pinned (.plain (OpenSpec.upto orderRowsSpec)) orderRowsUptoCard

/-- THE SECOND FORM's CARD OF 'centolaw3.OrderLeast'. -/
def orderLeastUptoCard : Claim7 := { stood := { row := orderLeastUptoRow, standIns := [], harness := (true, "f14aac9e52d846e16b45683151c3010fb29280cfdf5c2d90c2c3a166c41e4a9f"), looks := false }, kinds := [], alts := [], laidByText := true, laidKinds := [.data], laidTests := true, laidLooks := .later }
def OrderLeastUptoCardSaid : Prop := Claim7.holds Tryd.pinned (.plain (OpenSpec.upto orderLeastSpec)) orderLeastUptoCard
end Rows
end Go.Proofs.YtcmooaimhloonaaDoor
