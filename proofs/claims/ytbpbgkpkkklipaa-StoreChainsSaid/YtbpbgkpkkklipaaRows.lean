/-
  No cell of these rows narrows 'for every input' (looked for: loops, veiled, ifaces, maps, wideKeys, modest, calm, conditions, laid).
  DERIVED. THE GIVEN ROWS OF THIS SEAT. 3 by the template 'for every input the law returns true; each argument reads behind the call as it read before'; 0 by the template 'total and deterministic' (their statements: YtbpbgkpkkklipaaTotals.lean).
  GIVEN WITH THE SEED: the statements are not yours to turn. If you find one false, say at which input.
  Laid BY PROGRAM, IN A SANDBOX (cutbox-rows.mjs): the forced cells as the released guide's own fill.sh prints them over the translation fd782534f4ca82c5… (all of the seat's roots in one cut). By AI agents, Wed Nov 11 2026. No macro, syntax, notation, axiom, sorry.
-/
import Derived.Test.YtbpbgkpkkklipaaChecked
import GoSem.Claim
import GoSem.ClaimJoined
import GoSem.ClaimMapViews
import Derived.JoinedTies
import Derived.KernelRfl
namespace Go.Proofs.Ytbpbgkpkkklipaa
/- THE CELL 'sum', in the pinned program and in every row, IS THE sha256 OF THE DUMP (.gsa) THAT YtbpbgkpkkklipaaProg.lean LOADS. Nothing in Lean hashes anything: it is a label: what it is worth is what the hold of that sum in a sandbox is worth. -/
noncomputable def Try.pinned : Pinned := { name := "ytbpbgkpkkklipaa", sum := "fd782534f4ca82c5ab78a407bf6f201f0fe3ae20898f4aca6bda3a7b9ad6e526", checked := Try.checked }
namespace Rows
def none {H : Type} : Left H := { results := [], args := [] }

/-- 'centolaw17.StoreNeeds': WHATEVER THE INPUT: true; the input reads as it did. -/
def storeNeedsSpec : ChangeSpec := { name := "storeNeeds", fn := fun _ => fun
  | [d1, d2, d3] => { results := [.lit (.bool true)], args := [d1, d2, d3] }
  | _ => none }
def storeNeedsRow : OpenClaim := { program := "ytbpbgkpkkklipaa", sum := "fd782534f4ca82c5ab78a407bf6f201f0fe3ae20898f4aca6bda3a7b9ad6e526", func := "cento/centolaw17.StoreNeeds", spec := "storeNeeds", unfollowed := true, recurses := true, apart := false }
def StoreNeedsSaid : Prop := storeNeedsRow.holds Try.pinned (OpenSpec.ofChange storeNeedsSpec)

/-- ITS FALSE NEIGHBOUR: 'it returns false'. Refute it at one input. -/
def storeNeedsWrong : ChangeSpec := { name := "storeNeeds", fn := fun _ => fun
  | [d1, d2, d3] => { results := [.lit (.bool false)], args := [d1, d2, d3] }
  | _ => none }
def StoreNeedsWrongFalsely : Prop := storeNeedsRow.holds Try.pinned (OpenSpec.ofChange storeNeedsWrong)

/-- 'centolaw17.StoreChains': WHATEVER THE INPUT: true; the input reads as it did. -/
def storeChainsSpec : ChangeSpec := { name := "storeChains", fn := fun _ => fun
  | [d1, d2] => { results := [.lit (.bool true)], args := [d1, d2] }
  | _ => none }
def storeChainsRow : OpenClaim := { program := "ytbpbgkpkkklipaa", sum := "fd782534f4ca82c5ab78a407bf6f201f0fe3ae20898f4aca6bda3a7b9ad6e526", func := "cento/centolaw17.StoreChains", spec := "storeChains", unfollowed := true, recurses := true, apart := false }
def StoreChainsSaid : Prop := storeChainsRow.holds Try.pinned (OpenSpec.ofChange storeChainsSpec)

/-- ITS FALSE NEIGHBOUR: 'it returns false'. Refute it at one input. -/
def storeChainsWrong : ChangeSpec := { name := "storeChains", fn := fun _ => fun
  | [d1, d2] => { results := [.lit (.bool false)], args := [d1, d2] }
  | _ => none }
def StoreChainsWrongFalsely : Prop := storeChainsRow.holds Try.pinned (OpenSpec.ofChange storeChainsWrong)

/-- 'centolaw17.StoreFull': WHATEVER THE INPUT: true; the input reads as it did. -/
def storeFullSpec : ChangeSpec := { name := "storeFull", fn := fun _ => fun
  | [d] => { results := [.lit (.bool true)], args := [d] }
  | _ => none }
def storeFullRow : OpenClaim := { program := "ytbpbgkpkkklipaa", sum := "fd782534f4ca82c5ab78a407bf6f201f0fe3ae20898f4aca6bda3a7b9ad6e526", func := "cento/centolaw17.StoreFull", spec := "storeFull", unfollowed := true, recurses := true, apart := false }
def StoreFullSaid : Prop := storeFullRow.holds Try.pinned (OpenSpec.ofChange storeFullSpec)

/-- ITS FALSE NEIGHBOUR: 'it returns false'. Refute it at one input. -/
def storeFullWrong : ChangeSpec := { name := "storeFull", fn := fun _ => fun
  | [d] => { results := [.lit (.bool false)], args := [d] }
  | _ => none }
def StoreFullWrongFalsely : Prop := storeFullRow.holds Try.pinned (OpenSpec.ofChange storeFullWrong)

/- THE SECOND FORM. 'bulk': how many values and letters a reading holds, each counted each time it is reached (what is shared counts as often as it is met; a slice's spare places count too). A statement '..UptoSaid' is the law's where the arguments, and the package variables that the reading takes, are together of bulk at most 1048576: NARROWER than '..Said'. Prove '..Said' where nothing that the law and all that it calls make is longer than what came in: it says more and counts as full. Else prove '..UptoSaid'. A law counts once. -/
mutual
def uptoBulk {H : Type} : DataW H → Nat
  | .lit (.string bytes) => bytes.length + 1
  | .lit _ => 1
  | .nil => 1
  | .ptr d => uptoBulk d + 1
  | .slice elems spare => uptoBulkAll elems + uptoBulkAll spare + 1
  | .agg parts => uptoBulkAll parts + 1
  | .iface _ d => uptoBulk d + 1
  | .map entries => uptoBulkEntries entries + 1
  | .held _ => 1
def uptoBulkAll {H : Type} : List (DataW H) → Nat
  | [] => 0
  | d :: r => uptoBulk d + uptoBulkAll r
def uptoBulkEntries {H : Type} : List (Lit × DataW H) → Nat
  | [] => 0
  | x :: r => uptoBulkEntry x + uptoBulkEntries r
def uptoBulkEntry {H : Type} : Lit × DataW H → Nat
  | (.string bytes, d) => bytes.length + uptoBulk d + 1
  | (_, d) => uptoBulk d + 1
 end
def uptoSmall : (H : Type) → List (DataW H) → Bool := fun _ ds => decide (uptoBulkAll ds ≤ 1048576)
def OpenSpec.upto (s : _root_.Go.ChangeSpec) : _root_.Go.OpenSpec := { _root_.Go.OpenSpec.ofChange s with cond := some uptoSmall }

/-- 'centolaw17.StoreNeeds', WHERE WHAT IT READS IS OF BULK AT MOST 1048576: true; the input reads as it did. -/
def storeNeedsUptoRow : OpenClaim := { program := "ytbpbgkpkkklipaa", sum := "fd782534f4ca82c5ab78a407bf6f201f0fe3ae20898f4aca6bda3a7b9ad6e526", func := "cento/centolaw17.StoreNeeds", spec := "storeNeeds", unfollowed := true, recurses := true, apart := false, narrowed := true }
def StoreNeedsUptoSaid : Prop := storeNeedsUptoRow.holds Try.pinned (OpenSpec.upto storeNeedsSpec)

/-- 'centolaw17.StoreChains', WHERE WHAT IT READS IS OF BULK AT MOST 1048576: true; the input reads as it did. -/
def storeChainsUptoRow : OpenClaim := { program := "ytbpbgkpkkklipaa", sum := "fd782534f4ca82c5ab78a407bf6f201f0fe3ae20898f4aca6bda3a7b9ad6e526", func := "cento/centolaw17.StoreChains", spec := "storeChains", unfollowed := true, recurses := true, apart := false, narrowed := true }
def StoreChainsUptoSaid : Prop := storeChainsUptoRow.holds Try.pinned (OpenSpec.upto storeChainsSpec)

/-- 'centolaw17.StoreFull', WHERE WHAT IT READS IS OF BULK AT MOST 1048576: true; the input reads as it did. -/
def storeFullUptoRow : OpenClaim := { program := "ytbpbgkpkkklipaa", sum := "fd782534f4ca82c5ab78a407bf6f201f0fe3ae20898f4aca6bda3a7b9ad6e526", func := "cento/centolaw17.StoreFull", spec := "storeFull", unfollowed := true, recurses := true, apart := false, narrowed := true }
def StoreFullUptoSaid : Prop := storeFullUptoRow.holds Try.pinned (OpenSpec.upto storeFullSpec)

end Rows
end Go.Proofs.Ytbpbgkpkkklipaa
