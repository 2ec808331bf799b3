/-
  No cell of these rows narrows 'for every input' (looked for: loops, veiled, ifaces, maps, wideKeys, modest, calm, conditions, laid).
  DERIVED. THE GIVEN ROWS OF THIS SEAT. 4 by the template 'for every input the law returns true; each argument reads behind the call as it read before'; 0 by the template 'total and deterministic' (their statements: YtlpdenhcaipppaaGreatTotals.lean).
  GIVEN WITH THE SEED: the statements are not yours to turn. If you find one false, say at which input.
  Laid BY PROGRAM, IN A SANDBOX (cutbox-rows.mjs): the forced cells as the released guide's own fill.sh prints them over the translation 214c0eb6f5de8d34… (all of the seat's roots in one cut). By AI agents, Wed Nov 11 2026. No macro, syntax, notation, axiom, sorry.
-/
import Derived.Test.YtlpdenhcaipppaaGreatChecked
import GoSem.Claim
import GoSem.ClaimJoined
import GoSem.ClaimMapViews
import Derived.JoinedTies
import Derived.KernelRfl
namespace Go.Proofs.YtlpdenhcaipppaaGreat
/- THE CELL 'sum', in the pinned program and in every row, IS THE sha256 OF THE DUMP (.gsa) THAT YtlpdenhcaipppaaGreatProg.lean LOADS. Nothing in Lean hashes anything: it is a label: what it is worth is what the hold of that sum in a sandbox is worth. -/
noncomputable def Tryz.pinned : Pinned := { name := "ytlpdenhcaipppaagreat", sum := "214c0eb6f5de8d34bc40ce6826392648238329f57a9290d75baf7ffbdc709b99", checked := Tryz.checked }
namespace Rows
def none {H : Type} : Left H := { results := [], args := [] }

/-- 'centolaw18.CodecApart': WHATEVER THE INPUT: true; the input reads as it did. -/
def codecApartSpec : ChangeSpec := { name := "codecApart", fn := fun _ => fun
  | [d1, d2] => { results := [.lit (.bool true)], args := [d1, d2] }
  | _ => none }
def codecApartRow : OpenClaim := { program := "ytlpdenhcaipppaagreat", sum := "214c0eb6f5de8d34bc40ce6826392648238329f57a9290d75baf7ffbdc709b99", func := "cento/centolaw18.CodecApart", spec := "codecApart", inPlace := ["internal/abi.NoEscape"], unfollowed := true, recurses := true, apart := false }
def CodecApartSaid : Prop := codecApartRow.holds Tryz.pinned (OpenSpec.ofChange codecApartSpec)

/-- ITS FALSE NEIGHBOUR: 'it returns false'. Refute it at one input. -/
def codecApartWrong : ChangeSpec := { name := "codecApart", fn := fun _ => fun
  | [d1, d2] => { results := [.lit (.bool false)], args := [d1, d2] }
  | _ => none }
def CodecApartWrongFalsely : Prop := codecApartRow.holds Tryz.pinned (OpenSpec.ofChange codecApartWrong)

/-- 'centolaw18.CodecTells': WHATEVER THE INPUT: true; the input reads as it did. -/
def codecTellsSpec : ChangeSpec := { name := "codecTells", fn := fun _ => fun
  | [d1, d2, d3, d4] => { results := [.lit (.bool true)], args := [d1, d2, d3, d4] }
  | _ => none }
def codecTellsRow : OpenClaim := { program := "ytlpdenhcaipppaagreat", sum := "214c0eb6f5de8d34bc40ce6826392648238329f57a9290d75baf7ffbdc709b99", func := "cento/centolaw18.CodecTells", spec := "codecTells", inPlace := ["internal/abi.NoEscape"], unfollowed := true, recurses := true, apart := false }
def CodecTellsSaid : Prop := codecTellsRow.holds Tryz.pinned (OpenSpec.ofChange codecTellsSpec)

/-- ITS FALSE NEIGHBOUR: 'it returns false'. Refute it at one input. -/
def codecTellsWrong : ChangeSpec := { name := "codecTells", fn := fun _ => fun
  | [d1, d2, d3, d4] => { results := [.lit (.bool false)], args := [d1, d2, d3, d4] }
  | _ => none }
def CodecTellsWrongFalsely : Prop := codecTellsRow.holds Tryz.pinned (OpenSpec.ofChange codecTellsWrong)

/-- 'centolaw18.CodecReads': WHATEVER THE INPUT: true; the input reads as it did. -/
def codecReadsSpec : ChangeSpec := { name := "codecReads", fn := fun _ => fun
  | [d] => { results := [.lit (.bool true)], args := [d] }
  | _ => none }
def codecReadsRow : OpenClaim := { program := "ytlpdenhcaipppaagreat", sum := "214c0eb6f5de8d34bc40ce6826392648238329f57a9290d75baf7ffbdc709b99", func := "cento/centolaw18.CodecReads", spec := "codecReads", inPlace := ["internal/abi.NoEscape"], unfollowed := true, recurses := true, apart := false }
def CodecReadsSaid : Prop := codecReadsRow.holds Tryz.pinned (OpenSpec.ofChange codecReadsSpec)

/-- ITS FALSE NEIGHBOUR: 'it returns false'. Refute it at one input. -/
def codecReadsWrong : ChangeSpec := { name := "codecReads", fn := fun _ => fun
  | [d] => { results := [.lit (.bool false)], args := [d] }
  | _ => none }
def CodecReadsWrongFalsely : Prop := codecReadsRow.holds Tryz.pinned (OpenSpec.ofChange codecReadsWrong)

/-- 'centolaw18.CodecLists': WHATEVER THE INPUT: true; the input reads as it did. -/
def codecListsSpec : ChangeSpec := { name := "codecLists", fn := fun _ => fun
  | [d1, d2] => { results := [.lit (.bool true)], args := [d1, d2] }
  | _ => none }
def codecListsRow : OpenClaim := { program := "ytlpdenhcaipppaagreat", sum := "214c0eb6f5de8d34bc40ce6826392648238329f57a9290d75baf7ffbdc709b99", func := "cento/centolaw18.CodecLists", spec := "codecLists", inPlace := ["internal/abi.NoEscape"], unfollowed := true, recurses := true, apart := false }
def CodecListsSaid : Prop := codecListsRow.holds Tryz.pinned (OpenSpec.ofChange codecListsSpec)

/-- ITS FALSE NEIGHBOUR: 'it returns false'. Refute it at one input. -/
def codecListsWrong : ChangeSpec := { name := "codecLists", fn := fun _ => fun
  | [d1, d2] => { results := [.lit (.bool false)], args := [d1, d2] }
  | _ => none }
def CodecListsWrongFalsely : Prop := codecListsRow.holds Tryz.pinned (OpenSpec.ofChange codecListsWrong)

/- THE SECOND FORM. 'bulk': how many values and letters a reading holds, each counted each time it is reached (what is shared counts as often as it is met; a slice's spare places count too). A statement '..UptoSaid' is the law's where the arguments, and the package variables that the reading takes, are together of bulk at most 1048576: NARROWER than '..Said'. Prove '..Said' where nothing that the law and all that it calls make is longer than what came in: it says more and counts as full. Else prove '..UptoSaid'. A law counts once. -/
mutual
def uptoBulk {H : Type} : DataW H → Nat
  | .lit (.string bytes) => bytes.length + 1
  | .lit _ => 1
  | .nil => 1
  | .ptr d => uptoBulk d + 1
  | .slice elems spare => uptoBulkAll elems + uptoBulkAll spare + 1
  | .agg parts => uptoBulkAll parts + 1
  | .iface _ d => uptoBulk d + 1
  | .map entries => uptoBulkEntries entries + 1
  | .held _ => 1
def uptoBulkAll {H : Type} : List (DataW H) → Nat
  | [] => 0
  | d :: r => uptoBulk d + uptoBulkAll r
def uptoBulkEntries {H : Type} : List (Lit × DataW H) → Nat
  | [] => 0
  | x :: r => uptoBulkEntry x + uptoBulkEntries r
def uptoBulkEntry {H : Type} : Lit × DataW H → Nat
  | (.string bytes, d) => bytes.length + uptoBulk d + 1
  | (_, d) => uptoBulk d + 1
 end
def uptoSmall : (H : Type) → List (DataW H) → Bool := fun _ ds => decide (uptoBulkAll ds ≤ 1048576)
def OpenSpec.upto (s : _root_.Go.ChangeSpec) : _root_.Go.OpenSpec := { _root_.Go.OpenSpec.ofChange s with cond := some uptoSmall }

/-- 'centolaw18.CodecApart', WHERE WHAT IT READS IS OF BULK AT MOST 1048576: true; the input reads as it did. -/
def codecApartUptoRow : OpenClaim := { program := "ytlpdenhcaipppaagreat", sum := "214c0eb6f5de8d34bc40ce6826392648238329f57a9290d75baf7ffbdc709b99", func := "cento/centolaw18.CodecApart", spec := "codecApart", inPlace := ["internal/abi.NoEscape"], unfollowed := true, recurses := true, apart := false, narrowed := true }
def CodecApartUptoSaid : Prop := codecApartUptoRow.holds Tryz.pinned (OpenSpec.upto codecApartSpec)

/-- 'centolaw18.CodecTells', WHERE WHAT IT READS IS OF BULK AT MOST 1048576: true; the input reads as it did. -/
def codecTellsUptoRow : OpenClaim := { program := "ytlpdenhcaipppaagreat", sum := "214c0eb6f5de8d34bc40ce6826392648238329f57a9290d75baf7ffbdc709b99", func := "cento/centolaw18.CodecTells", spec := "codecTells", inPlace := ["internal/abi.NoEscape"], unfollowed := true, recurses := true, apart := false, narrowed := true }
def CodecTellsUptoSaid : Prop := codecTellsUptoRow.holds Tryz.pinned (OpenSpec.upto codecTellsSpec)

/-- 'centolaw18.CodecReads', WHERE WHAT IT READS IS OF BULK AT MOST 1048576: true; the input reads as it did. -/
def codecReadsUptoRow : OpenClaim := { program := "ytlpdenhcaipppaagreat", sum := "214c0eb6f5de8d34bc40ce6826392648238329f57a9290d75baf7ffbdc709b99", func := "cento/centolaw18.CodecReads", spec := "codecReads", inPlace := ["internal/abi.NoEscape"], unfollowed := true, recurses := true, apart := false, narrowed := true }
def CodecReadsUptoSaid : Prop := codecReadsUptoRow.holds Tryz.pinned (OpenSpec.upto codecReadsSpec)

/-- 'centolaw18.CodecLists', WHERE WHAT IT READS IS OF BULK AT MOST 1048576: true; the input reads as it did. -/
def codecListsUptoRow : OpenClaim := { program := "ytlpdenhcaipppaagreat", sum := "214c0eb6f5de8d34bc40ce6826392648238329f57a9290d75baf7ffbdc709b99", func := "cento/centolaw18.CodecLists", spec := "codecLists", inPlace := ["internal/abi.NoEscape"], unfollowed := true, recurses := true, apart := false, narrowed := true }
def CodecListsUptoSaid : Prop := codecListsUptoRow.holds Tryz.pinned (OpenSpec.upto codecListsSpec)

end Rows
end Go.Proofs.YtlpdenhcaipppaaGreat
