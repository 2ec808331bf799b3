/-
  DERIVED. GIVEN WITH THE SEED: THE CARDS: each row of YtganockeifkecaaDoorRows.lean that lists a variable, with what it lists TIED to the program's text (the seventh form; the later family's looks); each row that meets fmt, with fmt's text TOLD by the authors' own Lean function (tested against real Go, not proved from fmt's source: count such statements apart). THE CARD IS WHAT COUNTS. Prove the row's statement (the work); the ties are given (YtganockeifkecaaDoorTie.lean); close each card by the builder's one call (the guide's Derived/Test/ToyasCard.lean, 'card_holds'). Laid BY PROGRAM, IN A SANDBOX (cutbox-door.mjs). By AI agents, Wed Nov 11 2026. No macro, syntax, notation, axiom, sorry.
-/
import Derived.Test.YtganockeifkecaaDoorRows
import GoSem.ClaimSeven
namespace Go.Proofs.YtganockeifkecaaDoor
namespace Rows

/-- THE TIED CARD OF 'centolaw15.ResolveTells'. -/
def resolveTellsCard : Claim7 := { stood := { row := resolveTellsRow, standIns := [], harness := (true, "1742c24b9215d7ca8645109c8f16d9e845d7caad132e2324de6df02b83e6f8a9"), looks := false }, kinds := [], alts := [], laidByText := true, laidKinds := [.data], laidTests := true, laidLooks := .later }
def ResolveTellsCardSaid : Prop := Claim7.holds Tryd.pinned (.plain (OpenSpec.ofChange resolveTellsSpec)) resolveTellsCard

/-- THE TIED CARD OF 'centolaw15.ResolveDoes'. -/
def resolveDoesCard : Claim7 := { stood := { row := resolveDoesRow, standIns := [], harness := (true, "1742c24b9215d7ca8645109c8f16d9e845d7caad132e2324de6df02b83e6f8a9"), looks := false }, kinds := [], alts := [], laidByText := true, laidKinds := [.data], laidTests := true, laidLooks := .later }
def ResolveDoesCardSaid : Prop := Claim7.holds Tryd.pinned (.plain (OpenSpec.ofChange resolveDoesSpec)) resolveDoesCard

/-- THE TIED CARD OF 'centolaw15.ResolveSteps'. -/
def resolveStepsCard : Claim7 := { stood := { row := resolveStepsRow, standIns := [], harness := (true, "1742c24b9215d7ca8645109c8f16d9e845d7caad132e2324de6df02b83e6f8a9"), looks := false }, kinds := [], alts := [], laidByText := true, laidKinds := [.data], laidTests := true, laidLooks := .later }
def ResolveStepsCardSaid : Prop := Claim7.holds Tryd.pinned (.plain (OpenSpec.ofChange resolveStepsSpec)) resolveStepsCard

/-- THE TIED CARD OF 'centolaw15.ResolveRows'. -/
def resolveRowsCard : Claim7 := { stood := { row := resolveRowsRow, standIns := [], harness := (true, "1742c24b9215d7ca8645109c8f16d9e845d7caad132e2324de6df02b83e6f8a9"), looks := false }, kinds := [], alts := [], laidByText := true, laidKinds := [.data], laidTests := true, laidLooks := .later }
def ResolveRowsCardSaid : Prop := Claim7.holds Tryd.pinned (.plain (OpenSpec.ofChange resolveRowsSpec)) resolveRowsCard

/-- THE SECOND FORM's CARD OF 'centolaw15.ResolveTells'. -/
def resolveTellsUptoCard : Claim7 := { stood := { row := resolveTellsUptoRow, standIns := [], harness := (true, "1742c24b9215d7ca8645109c8f16d9e845d7caad132e2324de6df02b83e6f8a9"), looks := false }, kinds := [], alts := [], laidByText := true, laidKinds := [.data], laidTests := true, laidLooks := .later }
def ResolveTellsUptoCardSaid : Prop := Claim7.holds Tryd.pinned (.plain (OpenSpec.upto resolveTellsSpec)) resolveTellsUptoCard

/-- THE SECOND FORM's CARD OF 'centolaw15.ResolveDoes'. -/
def resolveDoesUptoCard : Claim7 := { stood := { row := resolveDoesUptoRow, standIns := [], harness := (true, "1742c24b9215d7ca8645109c8f16d9e845d7caad132e2324de6df02b83e6f8a9"), looks := false }, kinds := [], alts := [], laidByText := true, laidKinds := [.data], laidTests := true, laidLooks := .later }
def ResolveDoesUptoCardSaid : Prop := Claim7.holds Tryd.pinned (.plain (OpenSpec.upto resolveDoesSpec)) resolveDoesUptoCard

/-- THE SECOND FORM's CARD OF 'centolaw15.ResolveSteps'. -/
def resolveStepsUptoCard : Claim7 := { stood := { row := resolveStepsUptoRow, standIns := [], harness := (true, "1742c24b9215d7ca8645109c8f16d9e845d7caad132e2324de6df02b83e6f8a9"), looks := false }, kinds := [], alts := [], laidByText := true, laidKinds := [.data], laidTests := true, laidLooks := .later }
def ResolveStepsUptoCardSaid : Prop := Claim7.holds Tryd.pinned (.plain (OpenSpec.upto resolveStepsSpec)) resolveStepsUptoCard

/-- THE SECOND FORM's CARD OF 'centolaw15.ResolveRows'. -/
def resolveRowsUptoCard : Claim7 := { stood := { row := resolveRowsUptoRow, standIns := [], harness := (true, "1742c24b9215d7ca8645109c8f16d9e845d7caad132e2324de6df02b83e6f8a9"), looks := false }, kinds := [], alts := [], laidByText := true, laidKinds := [.data], laidTests := true, laidLooks := .later }
def ResolveRowsUptoCardSaid : Prop := Claim7.holds Tryd.pinned (.plain (OpenSpec.upto resolveRowsSpec)) resolveRowsUptoCard
end Rows
end Go.Proofs.YtganockeifkecaaDoor
