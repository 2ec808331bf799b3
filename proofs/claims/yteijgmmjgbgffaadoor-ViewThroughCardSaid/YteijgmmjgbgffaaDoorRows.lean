/-
  NARROWER THAN 'FOR EVERY INPUT', by the rows' own cells (each row's printed sentence says how): ObjMakes: laid · ObjLarge: laid · ObjTells: laid · ObjSpoils: laid · ViewTells: laid · ViewPlain: laid · ViewChains: laid · ViewRings: laid · ViewThrough: laid.
  DERIVED. THE GIVEN ROWS OF THIS SEAT. 9 by the template 'for every input the law returns true; each argument reads behind the call as it read before'; 0 by the template 'total and deterministic' (their statements: YteijgmmjgbgffaaDoorTotals.lean).
  GIVEN WITH THE SEED: the statements are not yours to turn. If you find one false, say at which input.
  Laid BY PROGRAM, IN A SANDBOX (cutbox-rows.mjs): the forced cells as the released guide's own fill.sh prints them over the translation 8733ffbc01b3a434… (all of the seat's roots in one cut). By AI agents, Wed Nov 11 2026. No macro, syntax, notation, axiom, sorry.
-/
import Derived.Test.YteijgmmjgbgffaaDoorChecked
import GoSem.Claim
import GoSem.ClaimJoined
import GoSem.ClaimMapViews
import Derived.JoinedTies
import Derived.KernelRfl
namespace Go.Proofs.YteijgmmjgbgffaaDoor
/- THE CELL 'sum', in the pinned program and in every row, IS THE sha256 OF THE DUMP (.gsa) THAT YteijgmmjgbgffaaDoorProg.lean LOADS. Nothing in Lean hashes anything: it is a label: what it is worth is what the hold of that sum in a sandbox is worth. -/
noncomputable def Tryd.pinned : Pinned := { name := "yteijgmmjgbgffaadoor", sum := "8733ffbc01b3a434dd98455f3845a30ac0fb9ee598b7811735b9c5d4887ca58b", checked := Tryd.checked }
namespace Rows
def none {H : Type} : Left H := { results := [], args := [] }

/- WHAT THE LISTED PACKAGE-LEVEL VARIABLES READ AS WHEN THE CALL BEGINS. Each datum BY PROGRAM (the guide's laid-datum.mjs) off the statement by which the dump's own 'gosem.cut.vars' lays the variable. In a bare row this is a premise. The card (YteijgmmjgbgffaaDoorCards.lean) ties it to the program's text. -/
def laid_math_bits_deBruijn64tab {H : Type} : DataW H := .agg [.lit (.int .u8 0), .lit (.int .u8 1), .lit (.int .u8 56), .lit (.int .u8 2), .lit (.int .u8 57), .lit (.int .u8 49), .lit (.int .u8 28), .lit (.int .u8 3), .lit (.int .u8 61), .lit (.int .u8 58), .lit (.int .u8 42), .lit (.int .u8 50), .lit (.int .u8 38), .lit (.int .u8 29), .lit (.int .u8 17), .lit (.int .u8 4), .lit (.int .u8 62), .lit (.int .u8 47), .lit (.int .u8 59), .lit (.int .u8 36), .lit (.int .u8 45), .lit (.int .u8 43), .lit (.int .u8 51), .lit (.int .u8 22), .lit (.int .u8 53), .lit (.int .u8 39), .lit (.int .u8 33), .lit (.int .u8 30), .lit (.int .u8 24), .lit (.int .u8 18), .lit (.int .u8 12), .lit (.int .u8 5), .lit (.int .u8 63), .lit (.int .u8 55), .lit (.int .u8 48), .lit (.int .u8 27), .lit (.int .u8 60), .lit (.int .u8 41), .lit (.int .u8 37), .lit (.int .u8 16), .lit (.int .u8 46), .lit (.int .u8 35), .lit (.int .u8 44), .lit (.int .u8 21), .lit (.int .u8 52), .lit (.int .u8 32), .lit (.int .u8 23), .lit (.int .u8 11), .lit (.int .u8 54), .lit (.int .u8 26), .lit (.int .u8 40), .lit (.int .u8 15), .lit (.int .u8 34), .lit (.int .u8 20), .lit (.int .u8 31), .lit (.int .u8 10), .lit (.int .u8 25), .lit (.int .u8 14), .lit (.int .u8 19), .lit (.int .u8 9), .lit (.int .u8 13), .lit (.int .u8 8), .lit (.int .u8 7), .lit (.int .u8 6)]

/-- 'centolaw4.ObjMakes': WHATEVER THE INPUT: true; the input reads as it did. -/
def objMakesSpec : ChangeSpec := { name := "objMakes", fn := fun _ => fun
  | [d1, d2, d3] => { results := [.lit (.bool true)], args := [d1, d2, d3] }
  | _ => none }
def objMakesRow : OpenClaim := { program := "yteijgmmjgbgffaadoor", sum := "8733ffbc01b3a434dd98455f3845a30ac0fb9ee598b7811735b9c5d4887ca58b", func := "cento/centolaw4.ObjMakes", spec := "objMakes", unfollowed := true, recurses := true, named := ["math/bits.deBruijn64tab"], apart := false, laid := [("math/bits.deBruijn64tab", laid_math_bits_deBruijn64tab)] }
def ObjMakesSaid : Prop := objMakesRow.holds Tryd.pinned (OpenSpec.ofChange objMakesSpec)

/-- ITS FALSE NEIGHBOUR: 'it returns false'. Refute it at one input. -/
def objMakesWrong : ChangeSpec := { name := "objMakes", fn := fun _ => fun
  | [d1, d2, d3] => { results := [.lit (.bool false)], args := [d1, d2, d3] }
  | _ => none }
def ObjMakesWrongFalsely : Prop := objMakesRow.holds Tryd.pinned (OpenSpec.ofChange objMakesWrong)

/-- 'centolaw4.ObjLarge': WHATEVER THE INPUT: true; the input reads as it did. -/
def objLargeSpec : ChangeSpec := { name := "objLarge", fn := fun _ => fun
  | [d] => { results := [.lit (.bool true)], args := [d] }
  | _ => none }
def objLargeRow : OpenClaim := { program := "yteijgmmjgbgffaadoor", sum := "8733ffbc01b3a434dd98455f3845a30ac0fb9ee598b7811735b9c5d4887ca58b", func := "cento/centolaw4.ObjLarge", spec := "objLarge", unfollowed := true, recurses := true, named := ["math/bits.deBruijn64tab"], apart := false, laid := [("math/bits.deBruijn64tab", laid_math_bits_deBruijn64tab)] }
def ObjLargeSaid : Prop := objLargeRow.holds Tryd.pinned (OpenSpec.ofChange objLargeSpec)

/-- ITS FALSE NEIGHBOUR: 'it returns false'. Refute it at one input. -/
def objLargeWrong : ChangeSpec := { name := "objLarge", fn := fun _ => fun
  | [d] => { results := [.lit (.bool false)], args := [d] }
  | _ => none }
def ObjLargeWrongFalsely : Prop := objLargeRow.holds Tryd.pinned (OpenSpec.ofChange objLargeWrong)

/-- 'centolaw4.ObjTells': WHATEVER THE INPUT: true; the input reads as it did. -/
def objTellsSpec : ChangeSpec := { name := "objTells", fn := fun _ => fun
  | [d1, d2] => { results := [.lit (.bool true)], args := [d1, d2] }
  | _ => none }
def objTellsRow : OpenClaim := { program := "yteijgmmjgbgffaadoor", sum := "8733ffbc01b3a434dd98455f3845a30ac0fb9ee598b7811735b9c5d4887ca58b", func := "cento/centolaw4.ObjTells", spec := "objTells", unfollowed := true, recurses := true, named := ["math/bits.deBruijn64tab"], apart := false, laid := [("math/bits.deBruijn64tab", laid_math_bits_deBruijn64tab)] }
def ObjTellsSaid : Prop := objTellsRow.holds Tryd.pinned (OpenSpec.ofChange objTellsSpec)

/-- ITS FALSE NEIGHBOUR: 'it returns false'. Refute it at one input. -/
def objTellsWrong : ChangeSpec := { name := "objTells", fn := fun _ => fun
  | [d1, d2] => { results := [.lit (.bool false)], args := [d1, d2] }
  | _ => none }
def ObjTellsWrongFalsely : Prop := objTellsRow.holds Tryd.pinned (OpenSpec.ofChange objTellsWrong)

/-- 'centolaw4.ObjSpoils': WHATEVER THE INPUT: true; the input reads as it did. -/
def objSpoilsSpec : ChangeSpec := { name := "objSpoils", fn := fun _ => fun
  | [d1, d2] => { results := [.lit (.bool true)], args := [d1, d2] }
  | _ => none }
def objSpoilsRow : OpenClaim := { program := "yteijgmmjgbgffaadoor", sum := "8733ffbc01b3a434dd98455f3845a30ac0fb9ee598b7811735b9c5d4887ca58b", func := "cento/centolaw4.ObjSpoils", spec := "objSpoils", unfollowed := true, recurses := true, named := ["math/bits.deBruijn64tab"], apart := false, laid := [("math/bits.deBruijn64tab", laid_math_bits_deBruijn64tab)] }
def ObjSpoilsSaid : Prop := objSpoilsRow.holds Tryd.pinned (OpenSpec.ofChange objSpoilsSpec)

/-- ITS FALSE NEIGHBOUR: 'it returns false'. Refute it at one input. -/
def objSpoilsWrong : ChangeSpec := { name := "objSpoils", fn := fun _ => fun
  | [d1, d2] => { results := [.lit (.bool false)], args := [d1, d2] }
  | _ => none }
def ObjSpoilsWrongFalsely : Prop := objSpoilsRow.holds Tryd.pinned (OpenSpec.ofChange objSpoilsWrong)

/-- 'centolaw14.ViewTells': WHATEVER THE INPUT: true; the input reads as it did. -/
def viewTellsSpec : ChangeSpec := { name := "viewTells", fn := fun _ => fun
  | [d] => { results := [.lit (.bool true)], args := [d] }
  | _ => none }
def viewTellsRow : OpenClaim := { program := "yteijgmmjgbgffaadoor", sum := "8733ffbc01b3a434dd98455f3845a30ac0fb9ee598b7811735b9c5d4887ca58b", func := "cento/centolaw14.ViewTells", spec := "viewTells", inPlace := ["internal/abi.NoEscape"], unfollowed := true, recurses := true, named := ["math/bits.deBruijn64tab"], apart := false, laid := [("math/bits.deBruijn64tab", laid_math_bits_deBruijn64tab)] }
def ViewTellsSaid : Prop := viewTellsRow.holds Tryd.pinned (OpenSpec.ofChange viewTellsSpec)

/-- ITS FALSE NEIGHBOUR: 'it returns false'. Refute it at one input. -/
def viewTellsWrong : ChangeSpec := { name := "viewTells", fn := fun _ => fun
  | [d] => { results := [.lit (.bool false)], args := [d] }
  | _ => none }
def ViewTellsWrongFalsely : Prop := viewTellsRow.holds Tryd.pinned (OpenSpec.ofChange viewTellsWrong)

/-- 'centolaw14.ViewPlain': WHATEVER THE INPUT: true; the input reads as it did. -/
def viewPlainSpec : ChangeSpec := { name := "viewPlain", fn := fun _ => fun
  | [d] => { results := [.lit (.bool true)], args := [d] }
  | _ => none }
def viewPlainRow : OpenClaim := { program := "yteijgmmjgbgffaadoor", sum := "8733ffbc01b3a434dd98455f3845a30ac0fb9ee598b7811735b9c5d4887ca58b", func := "cento/centolaw14.ViewPlain", spec := "viewPlain", inPlace := ["internal/abi.NoEscape"], unfollowed := true, recurses := true, named := ["math/bits.deBruijn64tab"], apart := false, laid := [("math/bits.deBruijn64tab", laid_math_bits_deBruijn64tab)] }
def ViewPlainSaid : Prop := viewPlainRow.holds Tryd.pinned (OpenSpec.ofChange viewPlainSpec)

/-- ITS FALSE NEIGHBOUR: 'it returns false'. Refute it at one input. -/
def viewPlainWrong : ChangeSpec := { name := "viewPlain", fn := fun _ => fun
  | [d] => { results := [.lit (.bool false)], args := [d] }
  | _ => none }
def ViewPlainWrongFalsely : Prop := viewPlainRow.holds Tryd.pinned (OpenSpec.ofChange viewPlainWrong)

/-- 'centolaw14.ViewChains': WHATEVER THE INPUT: true; the input reads as it did. -/
def viewChainsSpec : ChangeSpec := { name := "viewChains", fn := fun _ => fun
  | [d1, d2] => { results := [.lit (.bool true)], args := [d1, d2] }
  | _ => none }
def viewChainsRow : OpenClaim := { program := "yteijgmmjgbgffaadoor", sum := "8733ffbc01b3a434dd98455f3845a30ac0fb9ee598b7811735b9c5d4887ca58b", func := "cento/centolaw14.ViewChains", spec := "viewChains", inPlace := ["internal/abi.NoEscape"], unfollowed := true, recurses := true, named := ["math/bits.deBruijn64tab"], apart := false, laid := [("math/bits.deBruijn64tab", laid_math_bits_deBruijn64tab)] }
def ViewChainsSaid : Prop := viewChainsRow.holds Tryd.pinned (OpenSpec.ofChange viewChainsSpec)

/-- ITS FALSE NEIGHBOUR: 'it returns false'. Refute it at one input. -/
def viewChainsWrong : ChangeSpec := { name := "viewChains", fn := fun _ => fun
  | [d1, d2] => { results := [.lit (.bool false)], args := [d1, d2] }
  | _ => none }
def ViewChainsWrongFalsely : Prop := viewChainsRow.holds Tryd.pinned (OpenSpec.ofChange viewChainsWrong)

/-- 'centolaw14.ViewRings': WHATEVER THE INPUT: true; the input reads as it did. -/
def viewRingsSpec : ChangeSpec := { name := "viewRings", fn := fun _ => fun
  | [d1, d2, d3] => { results := [.lit (.bool true)], args := [d1, d2, d3] }
  | _ => none }
def viewRingsRow : OpenClaim := { program := "yteijgmmjgbgffaadoor", sum := "8733ffbc01b3a434dd98455f3845a30ac0fb9ee598b7811735b9c5d4887ca58b", func := "cento/centolaw14.ViewRings", spec := "viewRings", inPlace := ["internal/abi.NoEscape"], unfollowed := true, recurses := true, named := ["math/bits.deBruijn64tab"], apart := false, laid := [("math/bits.deBruijn64tab", laid_math_bits_deBruijn64tab)] }
def ViewRingsSaid : Prop := viewRingsRow.holds Tryd.pinned (OpenSpec.ofChange viewRingsSpec)

/-- ITS FALSE NEIGHBOUR: 'it returns false'. Refute it at one input. -/
def viewRingsWrong : ChangeSpec := { name := "viewRings", fn := fun _ => fun
  | [d1, d2, d3] => { results := [.lit (.bool false)], args := [d1, d2, d3] }
  | _ => none }
def ViewRingsWrongFalsely : Prop := viewRingsRow.holds Tryd.pinned (OpenSpec.ofChange viewRingsWrong)

/-- 'centolaw14.ViewThrough': WHATEVER THE INPUT: true; the input reads as it did. -/
def viewThroughSpec : ChangeSpec := { name := "viewThrough", fn := fun _ => fun
  | [d] => { results := [.lit (.bool true)], args := [d] }
  | _ => none }
def viewThroughRow : OpenClaim := { program := "yteijgmmjgbgffaadoor", sum := "8733ffbc01b3a434dd98455f3845a30ac0fb9ee598b7811735b9c5d4887ca58b", func := "cento/centolaw14.ViewThrough", spec := "viewThrough", inPlace := ["internal/abi.NoEscape"], unfollowed := true, recurses := true, named := ["math/bits.deBruijn64tab"], apart := false, laid := [("math/bits.deBruijn64tab", laid_math_bits_deBruijn64tab)] }
def ViewThroughSaid : Prop := viewThroughRow.holds Tryd.pinned (OpenSpec.ofChange viewThroughSpec)

/-- ITS FALSE NEIGHBOUR: 'it returns false'. Refute it at one input. -/
def viewThroughWrong : ChangeSpec := { name := "viewThrough", fn := fun _ => fun
  | [d] => { results := [.lit (.bool false)], args := [d] }
  | _ => none }
def ViewThroughWrongFalsely : Prop := viewThroughRow.holds Tryd.pinned (OpenSpec.ofChange viewThroughWrong)

/- THE SECOND FORM. 'bulk': how many values and letters a reading holds, each counted each time it is reached (what is shared counts as often as it is met; a slice's spare places count too). A statement '..UptoSaid' is the law's where the arguments, and the package variables that the reading takes, are together of bulk at most 1048576: NARROWER than '..Said'. Prove '..Said' where nothing that the law and all that it calls make is longer than what came in: it says more and counts as full. Else prove '..UptoSaid'. A law counts once. -/
mutual
def uptoBulk {H : Type} : DataW H → Nat
  | .lit (.string bytes) => bytes.length + 1
  | .lit _ => 1
  | .nil => 1
  | .ptr d => uptoBulk d + 1
  | .slice elems spare => uptoBulkAll elems + uptoBulkAll spare + 1
  | .agg parts => uptoBulkAll parts + 1
  | .iface _ d => uptoBulk d + 1
  | .map entries => uptoBulkEntries entries + 1
  | .held _ => 1
def uptoBulkAll {H : Type} : List (DataW H) → Nat
  | [] => 0
  | d :: r => uptoBulk d + uptoBulkAll r
def uptoBulkEntries {H : Type} : List (Lit × DataW H) → Nat
  | [] => 0
  | x :: r => uptoBulkEntry x + uptoBulkEntries r
def uptoBulkEntry {H : Type} : Lit × DataW H → Nat
  | (.string bytes, d) => bytes.length + uptoBulk d + 1
  | (_, d) => uptoBulk d + 1
 end
def uptoSmall : (H : Type) → List (DataW H) → Bool := fun _ ds => decide (uptoBulkAll ds ≤ 1048576)
def OpenSpec.upto (s : _root_.Go.ChangeSpec) : _root_.Go.OpenSpec := { _root_.Go.OpenSpec.ofChange s with cond := some uptoSmall }

/-- 'centolaw4.ObjMakes', WHERE WHAT IT READS IS OF BULK AT MOST 1048576: true; the input reads as it did. -/
def objMakesUptoRow : OpenClaim := { program := "yteijgmmjgbgffaadoor", sum := "8733ffbc01b3a434dd98455f3845a30ac0fb9ee598b7811735b9c5d4887ca58b", func := "cento/centolaw4.ObjMakes", spec := "objMakes", unfollowed := true, recurses := true, named := ["math/bits.deBruijn64tab"], apart := false, laid := [("math/bits.deBruijn64tab", laid_math_bits_deBruijn64tab)], narrowed := true }
def ObjMakesUptoSaid : Prop := objMakesUptoRow.holds Tryd.pinned (OpenSpec.upto objMakesSpec)

/-- 'centolaw4.ObjLarge', WHERE WHAT IT READS IS OF BULK AT MOST 1048576: true; the input reads as it did. -/
def objLargeUptoRow : OpenClaim := { program := "yteijgmmjgbgffaadoor", sum := "8733ffbc01b3a434dd98455f3845a30ac0fb9ee598b7811735b9c5d4887ca58b", func := "cento/centolaw4.ObjLarge", spec := "objLarge", unfollowed := true, recurses := true, named := ["math/bits.deBruijn64tab"], apart := false, laid := [("math/bits.deBruijn64tab", laid_math_bits_deBruijn64tab)], narrowed := true }
def ObjLargeUptoSaid : Prop := objLargeUptoRow.holds Tryd.pinned (OpenSpec.upto objLargeSpec)

/-- 'centolaw4.ObjTells', WHERE WHAT IT READS IS OF BULK AT MOST 1048576: true; the input reads as it did. -/
def objTellsUptoRow : OpenClaim := { program := "yteijgmmjgbgffaadoor", sum := "8733ffbc01b3a434dd98455f3845a30ac0fb9ee598b7811735b9c5d4887ca58b", func := "cento/centolaw4.ObjTells", spec := "objTells", unfollowed := true, recurses := true, named := ["math/bits.deBruijn64tab"], apart := false, laid := [("math/bits.deBruijn64tab", laid_math_bits_deBruijn64tab)], narrowed := true }
def ObjTellsUptoSaid : Prop := objTellsUptoRow.holds Tryd.pinned (OpenSpec.upto objTellsSpec)

/-- 'centolaw4.ObjSpoils', WHERE WHAT IT READS IS OF BULK AT MOST 1048576: true; the input reads as it did. -/
def objSpoilsUptoRow : OpenClaim := { program := "yteijgmmjgbgffaadoor", sum := "8733ffbc01b3a434dd98455f3845a30ac0fb9ee598b7811735b9c5d4887ca58b", func := "cento/centolaw4.ObjSpoils", spec := "objSpoils", unfollowed := true, recurses := true, named := ["math/bits.deBruijn64tab"], apart := false, laid := [("math/bits.deBruijn64tab", laid_math_bits_deBruijn64tab)], narrowed := true }
def ObjSpoilsUptoSaid : Prop := objSpoilsUptoRow.holds Tryd.pinned (OpenSpec.upto objSpoilsSpec)

/-- 'centolaw14.ViewTells', WHERE WHAT IT READS IS OF BULK AT MOST 1048576: true; the input reads as it did. -/
def viewTellsUptoRow : OpenClaim := { program := "yteijgmmjgbgffaadoor", sum := "8733ffbc01b3a434dd98455f3845a30ac0fb9ee598b7811735b9c5d4887ca58b", func := "cento/centolaw14.ViewTells", spec := "viewTells", inPlace := ["internal/abi.NoEscape"], unfollowed := true, recurses := true, named := ["math/bits.deBruijn64tab"], apart := false, laid := [("math/bits.deBruijn64tab", laid_math_bits_deBruijn64tab)], narrowed := true }
def ViewTellsUptoSaid : Prop := viewTellsUptoRow.holds Tryd.pinned (OpenSpec.upto viewTellsSpec)

/-- 'centolaw14.ViewPlain', WHERE WHAT IT READS IS OF BULK AT MOST 1048576: true; the input reads as it did. -/
def viewPlainUptoRow : OpenClaim := { program := "yteijgmmjgbgffaadoor", sum := "8733ffbc01b3a434dd98455f3845a30ac0fb9ee598b7811735b9c5d4887ca58b", func := "cento/centolaw14.ViewPlain", spec := "viewPlain", inPlace := ["internal/abi.NoEscape"], unfollowed := true, recurses := true, named := ["math/bits.deBruijn64tab"], apart := false, laid := [("math/bits.deBruijn64tab", laid_math_bits_deBruijn64tab)], narrowed := true }
def ViewPlainUptoSaid : Prop := viewPlainUptoRow.holds Tryd.pinned (OpenSpec.upto viewPlainSpec)

/-- 'centolaw14.ViewChains', WHERE WHAT IT READS IS OF BULK AT MOST 1048576: true; the input reads as it did. -/
def viewChainsUptoRow : OpenClaim := { program := "yteijgmmjgbgffaadoor", sum := "8733ffbc01b3a434dd98455f3845a30ac0fb9ee598b7811735b9c5d4887ca58b", func := "cento/centolaw14.ViewChains", spec := "viewChains", inPlace := ["internal/abi.NoEscape"], unfollowed := true, recurses := true, named := ["math/bits.deBruijn64tab"], apart := false, laid := [("math/bits.deBruijn64tab", laid_math_bits_deBruijn64tab)], narrowed := true }
def ViewChainsUptoSaid : Prop := viewChainsUptoRow.holds Tryd.pinned (OpenSpec.upto viewChainsSpec)

/-- 'centolaw14.ViewRings', WHERE WHAT IT READS IS OF BULK AT MOST 1048576: true; the input reads as it did. -/
def viewRingsUptoRow : OpenClaim := { program := "yteijgmmjgbgffaadoor", sum := "8733ffbc01b3a434dd98455f3845a30ac0fb9ee598b7811735b9c5d4887ca58b", func := "cento/centolaw14.ViewRings", spec := "viewRings", inPlace := ["internal/abi.NoEscape"], unfollowed := true, recurses := true, named := ["math/bits.deBruijn64tab"], apart := false, laid := [("math/bits.deBruijn64tab", laid_math_bits_deBruijn64tab)], narrowed := true }
def ViewRingsUptoSaid : Prop := viewRingsUptoRow.holds Tryd.pinned (OpenSpec.upto viewRingsSpec)

/-- 'centolaw14.ViewThrough', WHERE WHAT IT READS IS OF BULK AT MOST 1048576: true; the input reads as it did. -/
def viewThroughUptoRow : OpenClaim := { program := "yteijgmmjgbgffaadoor", sum := "8733ffbc01b3a434dd98455f3845a30ac0fb9ee598b7811735b9c5d4887ca58b", func := "cento/centolaw14.ViewThrough", spec := "viewThrough", inPlace := ["internal/abi.NoEscape"], unfollowed := true, recurses := true, named := ["math/bits.deBruijn64tab"], apart := false, laid := [("math/bits.deBruijn64tab", laid_math_bits_deBruijn64tab)], narrowed := true }
def ViewThroughUptoSaid : Prop := viewThroughUptoRow.holds Tryd.pinned (OpenSpec.upto viewThroughSpec)

end Rows
end Go.Proofs.YteijgmmjgbgffaaDoor
