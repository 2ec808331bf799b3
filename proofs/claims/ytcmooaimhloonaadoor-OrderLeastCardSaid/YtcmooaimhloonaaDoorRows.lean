/-
  NARROWER THAN 'FOR EVERY INPUT', by the rows' own cells (each row's printed sentence says how): RelPlays: laid · RelWays: laid · RelJoins: laid · RelTells: laid · RelOnly: laid · OrderTells: laid · OrderSorted: laid · OrderClasses: laid · OrderRows: laid · OrderLeast: laid.
  DERIVED. THE GIVEN ROWS OF THIS SEAT. 10 by the template 'for every input the law returns true; each argument reads behind the call as it read before'; 0 by the template 'total and deterministic' (their statements: YtcmooaimhloonaaDoorTotals.lean).
  GIVEN WITH THE SEED: the statements are not yours to turn. If you find one false, say at which input.
  Laid BY PROGRAM, IN A SANDBOX (cutbox-rows.mjs): the forced cells as the released guide's own fill.sh prints them over the translation 6d5a540bc70dd899… (all of the seat's roots in one cut). By AI agents, Wed Nov 11 2026. No macro, syntax, notation, axiom, sorry.
-/
import Derived.Test.YtcmooaimhloonaaDoorChecked
import GoSem.Claim
import GoSem.ClaimJoined
import GoSem.ClaimMapViews
import Derived.JoinedTies
import Derived.KernelRfl
namespace Go.Proofs.YtcmooaimhloonaaDoor
/- THE CELL 'sum', in the pinned program and in every row, IS THE sha256 OF THE DUMP (.gsa) THAT YtcmooaimhloonaaDoorProg.lean LOADS. Nothing in Lean hashes anything: it is a label: what it is worth is what the hold of that sum in a sandbox is worth. -/
noncomputable def Tryd.pinned : Pinned := { name := "ytcmooaimhloonaadoor", sum := "6d5a540bc70dd8996a27ab593cc97899049eb16702e5fb10b613a82f10f46bd7", checked := Tryd.checked }
namespace Rows
def none {H : Type} : Left H := { results := [], args := [] }

/- WHAT THE LISTED PACKAGE-LEVEL VARIABLES READ AS WHEN THE CALL BEGINS. Each datum BY PROGRAM (the guide's laid-datum.mjs) off the statement by which the dump's own 'gosem.cut.vars' lays the variable. In a bare row this is a premise. The card (YtcmooaimhloonaaDoorCards.lean) ties it to the program's text. -/
def laid_math_bits_deBruijn64tab {H : Type} : DataW H := .agg [.lit (.int .u8 0), .lit (.int .u8 1), .lit (.int .u8 56), .lit (.int .u8 2), .lit (.int .u8 57), .lit (.int .u8 49), .lit (.int .u8 28), .lit (.int .u8 3), .lit (.int .u8 61), .lit (.int .u8 58), .lit (.int .u8 42), .lit (.int .u8 50), .lit (.int .u8 38), .lit (.int .u8 29), .lit (.int .u8 17), .lit (.int .u8 4), .lit (.int .u8 62), .lit (.int .u8 47), .lit (.int .u8 59), .lit (.int .u8 36), .lit (.int .u8 45), .lit (.int .u8 43), .lit (.int .u8 51), .lit (.int .u8 22), .lit (.int .u8 53), .lit (.int .u8 39), .lit (.int .u8 33), .lit (.int .u8 30), .lit (.int .u8 24), .lit (.int .u8 18), .lit (.int .u8 12), .lit (.int .u8 5), .lit (.int .u8 63), .lit (.int .u8 55), .lit (.int .u8 48), .lit (.int .u8 27), .lit (.int .u8 60), .lit (.int .u8 41), .lit (.int .u8 37), .lit (.int .u8 16), .lit (.int .u8 46), .lit (.int .u8 35), .lit (.int .u8 44), .lit (.int .u8 21), .lit (.int .u8 52), .lit (.int .u8 32), .lit (.int .u8 23), .lit (.int .u8 11), .lit (.int .u8 54), .lit (.int .u8 26), .lit (.int .u8 40), .lit (.int .u8 15), .lit (.int .u8 34), .lit (.int .u8 20), .lit (.int .u8 31), .lit (.int .u8 10), .lit (.int .u8 25), .lit (.int .u8 14), .lit (.int .u8 19), .lit (.int .u8 9), .lit (.int .u8 13), .lit (.int .u8 8), .lit (.int .u8 7), .lit (.int .u8 6)]

/-- 'centolaw2.RelPlays': WHATEVER THE INPUT: true; the input reads as it did. -/
def relPlaysSpec : ChangeSpec := { name := "relPlays", fn := fun _ => fun
  | [d1, d2, d3] => { results := [.lit (.bool true)], args := [d1, d2, d3] }
  | _ => none }
def relPlaysRow : OpenClaim := { program := "ytcmooaimhloonaadoor", sum := "6d5a540bc70dd8996a27ab593cc97899049eb16702e5fb10b613a82f10f46bd7", func := "cento/centolaw2.RelPlays", spec := "relPlays", unfollowed := true, recurses := true, named := ["math/bits.deBruijn64tab"], apart := false, laid := [("math/bits.deBruijn64tab", laid_math_bits_deBruijn64tab)] }
def RelPlaysSaid : Prop := relPlaysRow.holds Tryd.pinned (OpenSpec.ofChange relPlaysSpec)

/-- ITS FALSE NEIGHBOUR: 'it returns false'. Refute it at one input. -/
def relPlaysWrong : ChangeSpec := { name := "relPlays", fn := fun _ => fun
  | [d1, d2, d3] => { results := [.lit (.bool false)], args := [d1, d2, d3] }
  | _ => none }
def RelPlaysWrongFalsely : Prop := relPlaysRow.holds Tryd.pinned (OpenSpec.ofChange relPlaysWrong)

/-- 'centolaw2.RelWays': WHATEVER THE INPUT: true; the input reads as it did. -/
def relWaysSpec : ChangeSpec := { name := "relWays", fn := fun _ => fun
  | [d1, d2, d3] => { results := [.lit (.bool true)], args := [d1, d2, d3] }
  | _ => none }
def relWaysRow : OpenClaim := { program := "ytcmooaimhloonaadoor", sum := "6d5a540bc70dd8996a27ab593cc97899049eb16702e5fb10b613a82f10f46bd7", func := "cento/centolaw2.RelWays", spec := "relWays", unfollowed := true, recurses := true, named := ["math/bits.deBruijn64tab"], apart := false, laid := [("math/bits.deBruijn64tab", laid_math_bits_deBruijn64tab)] }
def RelWaysSaid : Prop := relWaysRow.holds Tryd.pinned (OpenSpec.ofChange relWaysSpec)

/-- ITS FALSE NEIGHBOUR: 'it returns false'. Refute it at one input. -/
def relWaysWrong : ChangeSpec := { name := "relWays", fn := fun _ => fun
  | [d1, d2, d3] => { results := [.lit (.bool false)], args := [d1, d2, d3] }
  | _ => none }
def RelWaysWrongFalsely : Prop := relWaysRow.holds Tryd.pinned (OpenSpec.ofChange relWaysWrong)

/-- 'centolaw2.RelJoins': WHATEVER THE INPUT: true; the input reads as it did. -/
def relJoinsSpec : ChangeSpec := { name := "relJoins", fn := fun _ => fun
  | [d1, d2, d3] => { results := [.lit (.bool true)], args := [d1, d2, d3] }
  | _ => none }
def relJoinsRow : OpenClaim := { program := "ytcmooaimhloonaadoor", sum := "6d5a540bc70dd8996a27ab593cc97899049eb16702e5fb10b613a82f10f46bd7", func := "cento/centolaw2.RelJoins", spec := "relJoins", unfollowed := true, recurses := true, named := ["math/bits.deBruijn64tab"], apart := false, laid := [("math/bits.deBruijn64tab", laid_math_bits_deBruijn64tab)] }
def RelJoinsSaid : Prop := relJoinsRow.holds Tryd.pinned (OpenSpec.ofChange relJoinsSpec)

/-- ITS FALSE NEIGHBOUR: 'it returns false'. Refute it at one input. -/
def relJoinsWrong : ChangeSpec := { name := "relJoins", fn := fun _ => fun
  | [d1, d2, d3] => { results := [.lit (.bool false)], args := [d1, d2, d3] }
  | _ => none }
def RelJoinsWrongFalsely : Prop := relJoinsRow.holds Tryd.pinned (OpenSpec.ofChange relJoinsWrong)

/-- 'centolaw2.RelTells': WHATEVER THE INPUT: true; the input reads as it did. -/
def relTellsSpec : ChangeSpec := { name := "relTells", fn := fun _ => fun
  | [d1, d2, d3, d4, d5] => { results := [.lit (.bool true)], args := [d1, d2, d3, d4, d5] }
  | _ => none }
def relTellsRow : OpenClaim := { program := "ytcmooaimhloonaadoor", sum := "6d5a540bc70dd8996a27ab593cc97899049eb16702e5fb10b613a82f10f46bd7", func := "cento/centolaw2.RelTells", spec := "relTells", unfollowed := true, recurses := true, named := ["math/bits.deBruijn64tab"], apart := false, laid := [("math/bits.deBruijn64tab", laid_math_bits_deBruijn64tab)] }
def RelTellsSaid : Prop := relTellsRow.holds Tryd.pinned (OpenSpec.ofChange relTellsSpec)

/-- ITS FALSE NEIGHBOUR: 'it returns false'. Refute it at one input. -/
def relTellsWrong : ChangeSpec := { name := "relTells", fn := fun _ => fun
  | [d1, d2, d3, d4, d5] => { results := [.lit (.bool false)], args := [d1, d2, d3, d4, d5] }
  | _ => none }
def RelTellsWrongFalsely : Prop := relTellsRow.holds Tryd.pinned (OpenSpec.ofChange relTellsWrong)

/-- 'centolaw2.RelOnly': WHATEVER THE INPUT: true; the input reads as it did. -/
def relOnlySpec : ChangeSpec := { name := "relOnly", fn := fun _ => fun
  | [d1, d2, d3] => { results := [.lit (.bool true)], args := [d1, d2, d3] }
  | _ => none }
def relOnlyRow : OpenClaim := { program := "ytcmooaimhloonaadoor", sum := "6d5a540bc70dd8996a27ab593cc97899049eb16702e5fb10b613a82f10f46bd7", func := "cento/centolaw2.RelOnly", spec := "relOnly", unfollowed := true, recurses := true, named := ["math/bits.deBruijn64tab"], apart := false, laid := [("math/bits.deBruijn64tab", laid_math_bits_deBruijn64tab)] }
def RelOnlySaid : Prop := relOnlyRow.holds Tryd.pinned (OpenSpec.ofChange relOnlySpec)

/-- ITS FALSE NEIGHBOUR: 'it returns false'. Refute it at one input. -/
def relOnlyWrong : ChangeSpec := { name := "relOnly", fn := fun _ => fun
  | [d1, d2, d3] => { results := [.lit (.bool false)], args := [d1, d2, d3] }
  | _ => none }
def RelOnlyWrongFalsely : Prop := relOnlyRow.holds Tryd.pinned (OpenSpec.ofChange relOnlyWrong)

/-- 'centolaw3.OrderTells': WHATEVER THE INPUT: true; the input reads as it did. -/
def orderTellsSpec : ChangeSpec := { name := "orderTells", fn := fun _ => fun
  | [d1, d2] => { results := [.lit (.bool true)], args := [d1, d2] }
  | _ => none }
def orderTellsRow : OpenClaim := { program := "ytcmooaimhloonaadoor", sum := "6d5a540bc70dd8996a27ab593cc97899049eb16702e5fb10b613a82f10f46bd7", func := "cento/centolaw3.OrderTells", spec := "orderTells", unfollowed := true, recurses := true, named := ["math/bits.deBruijn64tab"], apart := false, laid := [("math/bits.deBruijn64tab", laid_math_bits_deBruijn64tab)] }
def OrderTellsSaid : Prop := orderTellsRow.holds Tryd.pinned (OpenSpec.ofChange orderTellsSpec)

/-- ITS FALSE NEIGHBOUR: 'it returns false'. Refute it at one input. -/
def orderTellsWrong : ChangeSpec := { name := "orderTells", fn := fun _ => fun
  | [d1, d2] => { results := [.lit (.bool false)], args := [d1, d2] }
  | _ => none }
def OrderTellsWrongFalsely : Prop := orderTellsRow.holds Tryd.pinned (OpenSpec.ofChange orderTellsWrong)

/-- 'centolaw3.OrderSorted': WHATEVER THE INPUT: true; the input reads as it did. -/
def orderSortedSpec : ChangeSpec := { name := "orderSorted", fn := fun _ => fun
  | [d1, d2] => { results := [.lit (.bool true)], args := [d1, d2] }
  | _ => none }
def orderSortedRow : OpenClaim := { program := "ytcmooaimhloonaadoor", sum := "6d5a540bc70dd8996a27ab593cc97899049eb16702e5fb10b613a82f10f46bd7", func := "cento/centolaw3.OrderSorted", spec := "orderSorted", unfollowed := true, recurses := true, named := ["math/bits.deBruijn64tab"], apart := false, laid := [("math/bits.deBruijn64tab", laid_math_bits_deBruijn64tab)] }
def OrderSortedSaid : Prop := orderSortedRow.holds Tryd.pinned (OpenSpec.ofChange orderSortedSpec)

/-- ITS FALSE NEIGHBOUR: 'it returns false'. Refute it at one input. -/
def orderSortedWrong : ChangeSpec := { name := "orderSorted", fn := fun _ => fun
  | [d1, d2] => { results := [.lit (.bool false)], args := [d1, d2] }
  | _ => none }
def OrderSortedWrongFalsely : Prop := orderSortedRow.holds Tryd.pinned (OpenSpec.ofChange orderSortedWrong)

/-- 'centolaw3.OrderClasses': WHATEVER THE INPUT: true; the input reads as it did. -/
def orderClassesSpec : ChangeSpec := { name := "orderClasses", fn := fun _ => fun
  | [d1, d2] => { results := [.lit (.bool true)], args := [d1, d2] }
  | _ => none }
def orderClassesRow : OpenClaim := { program := "ytcmooaimhloonaadoor", sum := "6d5a540bc70dd8996a27ab593cc97899049eb16702e5fb10b613a82f10f46bd7", func := "cento/centolaw3.OrderClasses", spec := "orderClasses", unfollowed := true, recurses := true, named := ["math/bits.deBruijn64tab"], apart := false, laid := [("math/bits.deBruijn64tab", laid_math_bits_deBruijn64tab)] }
def OrderClassesSaid : Prop := orderClassesRow.holds Tryd.pinned (OpenSpec.ofChange orderClassesSpec)

/-- ITS FALSE NEIGHBOUR: 'it returns false'. Refute it at one input. -/
def orderClassesWrong : ChangeSpec := { name := "orderClasses", fn := fun _ => fun
  | [d1, d2] => { results := [.lit (.bool false)], args := [d1, d2] }
  | _ => none }
def OrderClassesWrongFalsely : Prop := orderClassesRow.holds Tryd.pinned (OpenSpec.ofChange orderClassesWrong)

/-- 'centolaw3.OrderRows': WHATEVER THE INPUT: true; the input reads as it did. -/
def orderRowsSpec : ChangeSpec := { name := "orderRows", fn := fun _ => fun
  | [d1, d2] => { results := [.lit (.bool true)], args := [d1, d2] }
  | _ => none }
def orderRowsRow : OpenClaim := { program := "ytcmooaimhloonaadoor", sum := "6d5a540bc70dd8996a27ab593cc97899049eb16702e5fb10b613a82f10f46bd7", func := "cento/centolaw3.OrderRows", spec := "orderRows", unfollowed := true, recurses := true, named := ["math/bits.deBruijn64tab"], apart := false, laid := [("math/bits.deBruijn64tab", laid_math_bits_deBruijn64tab)] }
def OrderRowsSaid : Prop := orderRowsRow.holds Tryd.pinned (OpenSpec.ofChange orderRowsSpec)

/-- ITS FALSE NEIGHBOUR: 'it returns false'. Refute it at one input. -/
def orderRowsWrong : ChangeSpec := { name := "orderRows", fn := fun _ => fun
  | [d1, d2] => { results := [.lit (.bool false)], args := [d1, d2] }
  | _ => none }
def OrderRowsWrongFalsely : Prop := orderRowsRow.holds Tryd.pinned (OpenSpec.ofChange orderRowsWrong)

/-- 'centolaw3.OrderLeast': WHATEVER THE INPUT: true; the input reads as it did. -/
def orderLeastSpec : ChangeSpec := { name := "orderLeast", fn := fun _ => fun
  | [d1, d2, d3] => { results := [.lit (.bool true)], args := [d1, d2, d3] }
  | _ => none }
def orderLeastRow : OpenClaim := { program := "ytcmooaimhloonaadoor", sum := "6d5a540bc70dd8996a27ab593cc97899049eb16702e5fb10b613a82f10f46bd7", func := "cento/centolaw3.OrderLeast", spec := "orderLeast", unfollowed := true, recurses := true, named := ["math/bits.deBruijn64tab"], apart := false, laid := [("math/bits.deBruijn64tab", laid_math_bits_deBruijn64tab)] }
def OrderLeastSaid : Prop := orderLeastRow.holds Tryd.pinned (OpenSpec.ofChange orderLeastSpec)

/-- ITS FALSE NEIGHBOUR: 'it returns false'. Refute it at one input. -/
def orderLeastWrong : ChangeSpec := { name := "orderLeast", fn := fun _ => fun
  | [d1, d2, d3] => { results := [.lit (.bool false)], args := [d1, d2, d3] }
  | _ => none }
def OrderLeastWrongFalsely : Prop := orderLeastRow.holds Tryd.pinned (OpenSpec.ofChange orderLeastWrong)

/- THE SECOND FORM. 'bulk': how many values and letters a reading holds, each counted each time it is reached (what is shared counts as often as it is met; a slice's spare places count too). A statement '..UptoSaid' is the law's where the arguments, and the package variables that the reading takes, are together of bulk at most 1048576: NARROWER than '..Said'. Prove '..Said' where nothing that the law and all that it calls make is longer than what came in: it says more and counts as full. Else prove '..UptoSaid'. A law counts once. -/
mutual
def uptoBulk {H : Type} : DataW H → Nat
  | .lit (.string bytes) => bytes.length + 1
  | .lit _ => 1
  | .nil => 1
  | .ptr d => uptoBulk d + 1
  | .slice elems spare => uptoBulkAll elems + uptoBulkAll spare + 1
  | .agg parts => uptoBulkAll parts + 1
  | .iface _ d => uptoBulk d + 1
  | .map entries => uptoBulkEntries entries + 1
  | .held _ => 1
def uptoBulkAll {H : Type} : List (DataW H) → Nat
  | [] => 0
  | d :: r => uptoBulk d + uptoBulkAll r
def uptoBulkEntries {H : Type} : List (Lit × DataW H) → Nat
  | [] => 0
  | x :: r => uptoBulkEntry x + uptoBulkEntries r
def uptoBulkEntry {H : Type} : Lit × DataW H → Nat
  | (.string bytes, d) => bytes.length + uptoBulk d + 1
  | (_, d) => uptoBulk d + 1
 end
def uptoSmall : (H : Type) → List (DataW H) → Bool := fun _ ds => decide (uptoBulkAll ds ≤ 1048576)
def OpenSpec.upto (s : _root_.Go.ChangeSpec) : _root_.Go.OpenSpec := { _root_.Go.OpenSpec.ofChange s with cond := some uptoSmall }

/-- 'centolaw2.RelPlays', WHERE WHAT IT READS IS OF BULK AT MOST 1048576: true; the input reads as it did. -/
def relPlaysUptoRow : OpenClaim := { program := "ytcmooaimhloonaadoor", sum := "6d5a540bc70dd8996a27ab593cc97899049eb16702e5fb10b613a82f10f46bd7", func := "cento/centolaw2.RelPlays", spec := "relPlays", unfollowed := true, recurses := true, named := ["math/bits.deBruijn64tab"], apart := false, laid := [("math/bits.deBruijn64tab", laid_math_bits_deBruijn64tab)], narrowed := true }
def RelPlaysUptoSaid : Prop := relPlaysUptoRow.holds Tryd.pinned (OpenSpec.upto relPlaysSpec)

/-- 'centolaw2.RelWays', WHERE WHAT IT READS IS OF BULK AT MOST 1048576: true; the input reads as it did. -/
def relWaysUptoRow : OpenClaim := { program := "ytcmooaimhloonaadoor", sum := "6d5a540bc70dd8996a27ab593cc97899049eb16702e5fb10b613a82f10f46bd7", func := "cento/centolaw2.RelWays", spec := "relWays", unfollowed := true, recurses := true, named := ["math/bits.deBruijn64tab"], apart := false, laid := [("math/bits.deBruijn64tab", laid_math_bits_deBruijn64tab)], narrowed := true }
def RelWaysUptoSaid : Prop := relWaysUptoRow.holds Tryd.pinned (OpenSpec.upto relWaysSpec)

/-- 'centolaw2.RelJoins', WHERE WHAT IT READS IS OF BULK AT MOST 1048576: true; the input reads as it did. -/
def relJoinsUptoRow : OpenClaim := { program := "ytcmooaimhloonaadoor", sum := "6d5a540bc70dd8996a27ab593cc97899049eb16702e5fb10b613a82f10f46bd7", func := "cento/centolaw2.RelJoins", spec := "relJoins", unfollowed := true, recurses := true, named := ["math/bits.deBruijn64tab"], apart := false, laid := [("math/bits.deBruijn64tab", laid_math_bits_deBruijn64tab)], narrowed := true }
def RelJoinsUptoSaid : Prop := relJoinsUptoRow.holds Tryd.pinned (OpenSpec.upto relJoinsSpec)

/-- 'centolaw2.RelTells', WHERE WHAT IT READS IS OF BULK AT MOST 1048576: true; the input reads as it did. -/
def relTellsUptoRow : OpenClaim := { program := "ytcmooaimhloonaadoor", sum := "6d5a540bc70dd8996a27ab593cc97899049eb16702e5fb10b613a82f10f46bd7", func := "cento/centolaw2.RelTells", spec := "relTells", unfollowed := true, recurses := true, named := ["math/bits.deBruijn64tab"], apart := false, laid := [("math/bits.deBruijn64tab", laid_math_bits_deBruijn64tab)], narrowed := true }
def RelTellsUptoSaid : Prop := relTellsUptoRow.holds Tryd.pinned (OpenSpec.upto relTellsSpec)

/-- 'centolaw2.RelOnly', WHERE WHAT IT READS IS OF BULK AT MOST 1048576: true; the input reads as it did. -/
def relOnlyUptoRow : OpenClaim := { program := "ytcmooaimhloonaadoor", sum := "6d5a540bc70dd8996a27ab593cc97899049eb16702e5fb10b613a82f10f46bd7", func := "cento/centolaw2.RelOnly", spec := "relOnly", unfollowed := true, recurses := true, named := ["math/bits.deBruijn64tab"], apart := false, laid := [("math/bits.deBruijn64tab", laid_math_bits_deBruijn64tab)], narrowed := true }
def RelOnlyUptoSaid : Prop := relOnlyUptoRow.holds Tryd.pinned (OpenSpec.upto relOnlySpec)

/-- 'centolaw3.OrderTells', WHERE WHAT IT READS IS OF BULK AT MOST 1048576: true; the input reads as it did. -/
def orderTellsUptoRow : OpenClaim := { program := "ytcmooaimhloonaadoor", sum := "6d5a540bc70dd8996a27ab593cc97899049eb16702e5fb10b613a82f10f46bd7", func := "cento/centolaw3.OrderTells", spec := "orderTells", unfollowed := true, recurses := true, named := ["math/bits.deBruijn64tab"], apart := false, laid := [("math/bits.deBruijn64tab", laid_math_bits_deBruijn64tab)], narrowed := true }
def OrderTellsUptoSaid : Prop := orderTellsUptoRow.holds Tryd.pinned (OpenSpec.upto orderTellsSpec)

/-- 'centolaw3.OrderSorted', WHERE WHAT IT READS IS OF BULK AT MOST 1048576: true; the input reads as it did. -/
def orderSortedUptoRow : OpenClaim := { program := "ytcmooaimhloonaadoor", sum := "6d5a540bc70dd8996a27ab593cc97899049eb16702e5fb10b613a82f10f46bd7", func := "cento/centolaw3.OrderSorted", spec := "orderSorted", unfollowed := true, recurses := true, named := ["math/bits.deBruijn64tab"], apart := false, laid := [("math/bits.deBruijn64tab", laid_math_bits_deBruijn64tab)], narrowed := true }
def OrderSortedUptoSaid : Prop := orderSortedUptoRow.holds Tryd.pinned (OpenSpec.upto orderSortedSpec)

/-- 'centolaw3.OrderClasses', WHERE WHAT IT READS IS OF BULK AT MOST 1048576: true; the input reads as it did. -/
def orderClassesUptoRow : OpenClaim := { program := "ytcmooaimhloonaadoor", sum := "6d5a540bc70dd8996a27ab593cc97899049eb16702e5fb10b613a82f10f46bd7", func := "cento/centolaw3.OrderClasses", spec := "orderClasses", unfollowed := true, recurses := true, named := ["math/bits.deBruijn64tab"], apart := false, laid := [("math/bits.deBruijn64tab", laid_math_bits_deBruijn64tab)], narrowed := true }
def OrderClassesUptoSaid : Prop := orderClassesUptoRow.holds Tryd.pinned (OpenSpec.upto orderClassesSpec)

/-- 'centolaw3.OrderRows', WHERE WHAT IT READS IS OF BULK AT MOST 1048576: true; the input reads as it did. -/
def orderRowsUptoRow : OpenClaim := { program := "ytcmooaimhloonaadoor", sum := "6d5a540bc70dd8996a27ab593cc97899049eb16702e5fb10b613a82f10f46bd7", func := "cento/centolaw3.OrderRows", spec := "orderRows", unfollowed := true, recurses := true, named := ["math/bits.deBruijn64tab"], apart := false, laid := [("math/bits.deBruijn64tab", laid_math_bits_deBruijn64tab)], narrowed := true }
def OrderRowsUptoSaid : Prop := orderRowsUptoRow.holds Tryd.pinned (OpenSpec.upto orderRowsSpec)

/-- 'centolaw3.OrderLeast', WHERE WHAT IT READS IS OF BULK AT MOST 1048576: true; the input reads as it did. -/
def orderLeastUptoRow : OpenClaim := { program := "ytcmooaimhloonaadoor", sum := "6d5a540bc70dd8996a27ab593cc97899049eb16702e5fb10b613a82f10f46bd7", func := "cento/centolaw3.OrderLeast", spec := "orderLeast", unfollowed := true, recurses := true, named := ["math/bits.deBruijn64tab"], apart := false, laid := [("math/bits.deBruijn64tab", laid_math_bits_deBruijn64tab)], narrowed := true }
def OrderLeastUptoSaid : Prop := orderLeastUptoRow.holds Tryd.pinned (OpenSpec.upto orderLeastSpec)

end Rows
end Go.Proofs.YtcmooaimhloonaaDoor
