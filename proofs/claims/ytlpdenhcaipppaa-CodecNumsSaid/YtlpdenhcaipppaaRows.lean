/-
  No cell of these rows narrows 'for every input' (looked for: loops, veiled, ifaces, maps, wideKeys, modest, calm, conditions, laid).
  DERIVED. THE GIVEN ROWS OF THIS SEAT. 3 by the template 'for every input the law returns true; each argument reads behind the call as it read before'; 0 by the template 'total and deterministic' (their statements: YtlpdenhcaipppaaTotals.lean).
  GIVEN WITH THE SEED: the statements are not yours to turn. If you find one false, say at which input.
  Laid BY PROGRAM, IN A SANDBOX (cutbox-rows.mjs): the forced cells as the released guide's own fill.sh prints them over the translation 2f19f88605f802f2… (all of the seat's roots in one cut). By AI agents, Wed Nov 11 2026. No macro, syntax, notation, axiom, sorry.
-/
import Derived.Test.YtlpdenhcaipppaaChecked
import GoSem.Claim
import GoSem.ClaimJoined
import GoSem.ClaimMapViews
import Derived.JoinedTies
import Derived.KernelRfl
namespace Go.Proofs.Ytlpdenhcaipppaa
/- THE CELL 'sum', in the pinned program and in every row, IS THE sha256 OF THE DUMP (.gsa) THAT YtlpdenhcaipppaaProg.lean LOADS. Nothing in Lean hashes anything: it is a label: what it is worth is what the hold of that sum in a sandbox is worth. -/
noncomputable def Try.pinned : Pinned := { name := "ytlpdenhcaipppaa", sum := "2f19f88605f802f2c3ca8ee5db507c25cb9fbda8d8ded396f91d135b156c2a49", checked := Try.checked }
namespace Rows
def none {H : Type} : Left H := { results := [], args := [] }

/-- 'centolaw18.CodecBack': WHATEVER THE INPUT: true; the input reads as it did. -/
def codecBackSpec : ChangeSpec := { name := "codecBack", fn := fun _ => fun
  | [d1, d2, d3] => { results := [.lit (.bool true)], args := [d1, d2, d3] }
  | _ => none }
def codecBackRow : OpenClaim := { program := "ytlpdenhcaipppaa", sum := "2f19f88605f802f2c3ca8ee5db507c25cb9fbda8d8ded396f91d135b156c2a49", func := "cento/centolaw18.CodecBack", spec := "codecBack", inPlace := ["internal/abi.NoEscape"], unfollowed := true, recurses := true, apart := false }
def CodecBackSaid : Prop := codecBackRow.holds Try.pinned (OpenSpec.ofChange codecBackSpec)

/-- ITS FALSE NEIGHBOUR: 'it returns false'. Refute it at one input. -/
def codecBackWrong : ChangeSpec := { name := "codecBack", fn := fun _ => fun
  | [d1, d2, d3] => { results := [.lit (.bool false)], args := [d1, d2, d3] }
  | _ => none }
def CodecBackWrongFalsely : Prop := codecBackRow.holds Try.pinned (OpenSpec.ofChange codecBackWrong)

/-- 'centolaw18.CodecNums': WHATEVER THE INPUT: true; the input reads as it did. -/
def codecNumsSpec : ChangeSpec := { name := "codecNums", fn := fun _ => fun
  | [d1, d2] => { results := [.lit (.bool true)], args := [d1, d2] }
  | _ => none }
def codecNumsRow : OpenClaim := { program := "ytlpdenhcaipppaa", sum := "2f19f88605f802f2c3ca8ee5db507c25cb9fbda8d8ded396f91d135b156c2a49", func := "cento/centolaw18.CodecNums", spec := "codecNums", inPlace := ["internal/abi.NoEscape"], unfollowed := true, recurses := true, apart := false }
def CodecNumsSaid : Prop := codecNumsRow.holds Try.pinned (OpenSpec.ofChange codecNumsSpec)

/-- ITS FALSE NEIGHBOUR: 'it returns false'. Refute it at one input. -/
def codecNumsWrong : ChangeSpec := { name := "codecNums", fn := fun _ => fun
  | [d1, d2] => { results := [.lit (.bool false)], args := [d1, d2] }
  | _ => none }
def CodecNumsWrongFalsely : Prop := codecNumsRow.holds Try.pinned (OpenSpec.ofChange codecNumsWrong)

/-- 'centolaw18.CodecTurned': WHATEVER THE INPUT: true; the input reads as it did. -/
def codecTurnedSpec : ChangeSpec := { name := "codecTurned", fn := fun _ => fun
  | [d1, d2, d3] => { results := [.lit (.bool true)], args := [d1, d2, d3] }
  | _ => none }
def codecTurnedRow : OpenClaim := { program := "ytlpdenhcaipppaa", sum := "2f19f88605f802f2c3ca8ee5db507c25cb9fbda8d8ded396f91d135b156c2a49", func := "cento/centolaw18.CodecTurned", spec := "codecTurned", inPlace := ["internal/abi.NoEscape"], unfollowed := true, recurses := true, apart := false }
def CodecTurnedSaid : Prop := codecTurnedRow.holds Try.pinned (OpenSpec.ofChange codecTurnedSpec)

/-- ITS FALSE NEIGHBOUR: 'it returns false'. Refute it at one input. -/
def codecTurnedWrong : ChangeSpec := { name := "codecTurned", fn := fun _ => fun
  | [d1, d2, d3] => { results := [.lit (.bool false)], args := [d1, d2, d3] }
  | _ => none }
def CodecTurnedWrongFalsely : Prop := codecTurnedRow.holds Try.pinned (OpenSpec.ofChange codecTurnedWrong)

/- THE SECOND FORM. 'bulk': how many values and letters a reading holds, each counted each time it is reached (what is shared counts as often as it is met; a slice's spare places count too). A statement '..UptoSaid' is the law's where the arguments, and the package variables that the reading takes, are together of bulk at most 1048576: NARROWER than '..Said'. Prove '..Said' where nothing that the law and all that it calls make is longer than what came in: it says more and counts as full. Else prove '..UptoSaid'. A law counts once. -/
mutual
def uptoBulk {H : Type} : DataW H → Nat
  | .lit (.string bytes) => bytes.length + 1
  | .lit _ => 1
  | .nil => 1
  | .ptr d => uptoBulk d + 1
  | .slice elems spare => uptoBulkAll elems + uptoBulkAll spare + 1
  | .agg parts => uptoBulkAll parts + 1
  | .iface _ d => uptoBulk d + 1
  | .map entries => uptoBulkEntries entries + 1
  | .held _ => 1
def uptoBulkAll {H : Type} : List (DataW H) → Nat
  | [] => 0
  | d :: r => uptoBulk d + uptoBulkAll r
def uptoBulkEntries {H : Type} : List (Lit × DataW H) → Nat
  | [] => 0
  | x :: r => uptoBulkEntry x + uptoBulkEntries r
def uptoBulkEntry {H : Type} : Lit × DataW H → Nat
  | (.string bytes, d) => bytes.length + uptoBulk d + 1
  | (_, d) => uptoBulk d + 1
 end
def uptoSmall : (H : Type) → List (DataW H) → Bool := fun _ ds => decide (uptoBulkAll ds ≤ 1048576)
def OpenSpec.upto (s : _root_.Go.ChangeSpec) : _root_.Go.OpenSpec := { _root_.Go.OpenSpec.ofChange s with cond := some uptoSmall }

/-- 'centolaw18.CodecBack', WHERE WHAT IT READS IS OF BULK AT MOST 1048576: true; the input reads as it did. -/
def codecBackUptoRow : OpenClaim := { program := "ytlpdenhcaipppaa", sum := "2f19f88605f802f2c3ca8ee5db507c25cb9fbda8d8ded396f91d135b156c2a49", func := "cento/centolaw18.CodecBack", spec := "codecBack", inPlace := ["internal/abi.NoEscape"], unfollowed := true, recurses := true, apart := false, narrowed := true }
def CodecBackUptoSaid : Prop := codecBackUptoRow.holds Try.pinned (OpenSpec.upto codecBackSpec)

/-- 'centolaw18.CodecNums', WHERE WHAT IT READS IS OF BULK AT MOST 1048576: true; the input reads as it did. -/
def codecNumsUptoRow : OpenClaim := { program := "ytlpdenhcaipppaa", sum := "2f19f88605f802f2c3ca8ee5db507c25cb9fbda8d8ded396f91d135b156c2a49", func := "cento/centolaw18.CodecNums", spec := "codecNums", inPlace := ["internal/abi.NoEscape"], unfollowed := true, recurses := true, apart := false, narrowed := true }
def CodecNumsUptoSaid : Prop := codecNumsUptoRow.holds Try.pinned (OpenSpec.upto codecNumsSpec)

/-- 'centolaw18.CodecTurned', WHERE WHAT IT READS IS OF BULK AT MOST 1048576: true; the input reads as it did. -/
def codecTurnedUptoRow : OpenClaim := { program := "ytlpdenhcaipppaa", sum := "2f19f88605f802f2c3ca8ee5db507c25cb9fbda8d8ded396f91d135b156c2a49", func := "cento/centolaw18.CodecTurned", spec := "codecTurned", inPlace := ["internal/abi.NoEscape"], unfollowed := true, recurses := true, apart := false, narrowed := true }
def CodecTurnedUptoSaid : Prop := codecTurnedUptoRow.holds Try.pinned (OpenSpec.upto codecTurnedSpec)

end Rows
end Go.Proofs.Ytlpdenhcaipppaa
