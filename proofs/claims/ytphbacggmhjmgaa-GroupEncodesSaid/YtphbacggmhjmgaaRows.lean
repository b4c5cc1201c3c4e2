/-
  No cell of these rows narrows 'for every input' (looked for: loops, veiled, ifaces, maps, wideKeys, modest, calm, conditions, laid).
  DERIVED. THE GIVEN ROWS OF THIS SEAT. 4 by the template 'for every input the law returns true; each argument reads behind the call as it read before'; 0 by the template 'total and deterministic' (their statements: YtphbacggmhjmgaaTotals.lean).
  GIVEN WITH THE SEED: the statements are not yours to turn. If you find one false, say at which input.
  Laid BY PROGRAM, IN A SANDBOX (cutbox-rows.mjs): the forced cells as the released guide's own fill.sh prints them over the translation 9f453ea4afffcaf4… (all of the seat's roots in one cut). By AI agents, Wed Nov 11 2026. No macro, syntax, notation, axiom, sorry.
-/
import Derived.Test.YtphbacggmhjmgaaChecked
import GoSem.Claim
import GoSem.ClaimJoined
import GoSem.ClaimMapViews
import Derived.JoinedTies
import Derived.KernelRfl
namespace Go.Proofs.Ytphbacggmhjmgaa
/- THE CELL 'sum', in the pinned program and in every row, IS THE sha256 OF THE DUMP (.gsa) THAT YtphbacggmhjmgaaProg.lean LOADS. Nothing in Lean hashes anything: it is a label: what it is worth is what the hold of that sum in a sandbox is worth. -/
noncomputable def Try.pinned : Pinned := { name := "ytphbacggmhjmgaa", sum := "9f453ea4afffcaf4c7f3f9d0d5f4561b2c4345cd3344531b48220791ca739137", checked := Try.checked }
namespace Rows
def none {H : Type} : Left H := { results := [], args := [] }

/-- 'treenaillaw04.GroupEncodes': WHATEVER THE INPUT: true; the input reads as it did. -/
def groupEncodesSpec : ChangeSpec := { name := "groupEncodes", fn := fun _ => fun
  | [d1, d2, d3] => { results := [.lit (.bool true)], args := [d1, d2, d3] }
  | _ => none }
def groupEncodesRow : OpenClaim := { program := "ytphbacggmhjmgaa", sum := "9f453ea4afffcaf4c7f3f9d0d5f4561b2c4345cd3344531b48220791ca739137", func := "treenail/treenaillaw04.GroupEncodes", spec := "groupEncodes", inPlace := ["math/bits.Add64", "math/bits.Sub64"], named := ["math/bits.divideError", "math/bits.overflowError"], apart := false }
def GroupEncodesSaid : Prop := groupEncodesRow.holds Try.pinned (OpenSpec.ofChange groupEncodesSpec)

/-- ITS FALSE NEIGHBOUR: 'it returns false'. Refute it at one input. -/
def groupEncodesWrong : ChangeSpec := { name := "groupEncodes", fn := fun _ => fun
  | [d1, d2, d3] => { results := [.lit (.bool false)], args := [d1, d2, d3] }
  | _ => none }
def GroupEncodesWrongFalsely : Prop := groupEncodesRow.holds Try.pinned (OpenSpec.ofChange groupEncodesWrong)

/-- 'treenaillaw04.GroupOrders': WHATEVER THE INPUT: true; the input reads as it did. -/
def groupOrdersSpec : ChangeSpec := { name := "groupOrders", fn := fun _ => fun
  | [d1, d2, d3] => { results := [.lit (.bool true)], args := [d1, d2, d3] }
  | _ => none }
def groupOrdersRow : OpenClaim := { program := "ytphbacggmhjmgaa", sum := "9f453ea4afffcaf4c7f3f9d0d5f4561b2c4345cd3344531b48220791ca739137", func := "treenail/treenaillaw04.GroupOrders", spec := "groupOrders", inPlace := ["math/bits.Add64", "math/bits.Sub64"], named := ["math/bits.divideError", "math/bits.overflowError"], apart := false }
def GroupOrdersSaid : Prop := groupOrdersRow.holds Try.pinned (OpenSpec.ofChange groupOrdersSpec)

/-- ITS FALSE NEIGHBOUR: 'it returns false'. Refute it at one input. -/
def groupOrdersWrong : ChangeSpec := { name := "groupOrders", fn := fun _ => fun
  | [d1, d2, d3] => { results := [.lit (.bool false)], args := [d1, d2, d3] }
  | _ => none }
def GroupOrdersWrongFalsely : Prop := groupOrdersRow.holds Try.pinned (OpenSpec.ofChange groupOrdersWrong)

/-- 'treenaillaw04.GroupHalves': WHATEVER THE INPUT: true; the input reads as it did. -/
def groupHalvesSpec : ChangeSpec := { name := "groupHalves", fn := fun _ => fun
  | [d1, d2] => { results := [.lit (.bool true)], args := [d1, d2] }
  | _ => none }
def groupHalvesRow : OpenClaim := { program := "ytphbacggmhjmgaa", sum := "9f453ea4afffcaf4c7f3f9d0d5f4561b2c4345cd3344531b48220791ca739137", func := "treenail/treenaillaw04.GroupHalves", spec := "groupHalves", inPlace := ["math/bits.Add64", "math/bits.Sub64"], named := ["math/bits.divideError", "math/bits.overflowError"], apart := false }
def GroupHalvesSaid : Prop := groupHalvesRow.holds Try.pinned (OpenSpec.ofChange groupHalvesSpec)

/-- ITS FALSE NEIGHBOUR: 'it returns false'. Refute it at one input. -/
def groupHalvesWrong : ChangeSpec := { name := "groupHalves", fn := fun _ => fun
  | [d1, d2] => { results := [.lit (.bool false)], args := [d1, d2] }
  | _ => none }
def GroupHalvesWrongFalsely : Prop := groupHalvesRow.holds Try.pinned (OpenSpec.ofChange groupHalvesWrong)

/-- 'treenaillaw04.GroupLaws': WHATEVER THE INPUT: true; the input reads as it did. -/
def groupLawsSpec : ChangeSpec := { name := "groupLaws", fn := fun _ => fun
  | [d1, d2, d3] => { results := [.lit (.bool true)], args := [d1, d2, d3] }
  | _ => none }
def groupLawsRow : OpenClaim := { program := "ytphbacggmhjmgaa", sum := "9f453ea4afffcaf4c7f3f9d0d5f4561b2c4345cd3344531b48220791ca739137", func := "treenail/treenaillaw04.GroupLaws", spec := "groupLaws", inPlace := ["math/bits.Add64", "math/bits.Sub64"], named := ["math/bits.divideError", "math/bits.overflowError"], apart := false }
def GroupLawsSaid : Prop := groupLawsRow.holds Try.pinned (OpenSpec.ofChange groupLawsSpec)

/-- ITS FALSE NEIGHBOUR: 'it returns false'. Refute it at one input. -/
def groupLawsWrong : ChangeSpec := { name := "groupLaws", fn := fun _ => fun
  | [d1, d2, d3] => { results := [.lit (.bool false)], args := [d1, d2, d3] }
  | _ => none }
def GroupLawsWrongFalsely : Prop := groupLawsRow.holds Try.pinned (OpenSpec.ofChange groupLawsWrong)

/- THE SECOND FORM. 'bulk': how many values and letters a reading holds, each counted each time it is reached (what is shared counts as often as it is met; a slice's spare places count too). A statement '..UptoSaid' is the law's where the arguments, and the package variables that the reading takes, are together of bulk at most 1048576: NARROWER than '..Said'. Prove '..Said' where nothing that the law and all that it calls make is longer than what came in: it says more and counts as full. Else prove '..UptoSaid'. A law counts once. -/
mutual
def uptoBulk {H : Type} : DataW H → Nat
  | .lit (.string bytes) => bytes.length + 1
  | .lit _ => 1
  | .nil => 1
  | .ptr d => uptoBulk d + 1
  | .slice elems spare => uptoBulkAll elems + uptoBulkAll spare + 1
  | .agg parts => uptoBulkAll parts + 1
  | .iface _ d => uptoBulk d + 1
  | .map entries => uptoBulkEntries entries + 1
  | .held _ => 1
def uptoBulkAll {H : Type} : List (DataW H) → Nat
  | [] => 0
  | d :: r => uptoBulk d + uptoBulkAll r
def uptoBulkEntries {H : Type} : List (Lit × DataW H) → Nat
  | [] => 0
  | x :: r => uptoBulkEntry x + uptoBulkEntries r
def uptoBulkEntry {H : Type} : Lit × DataW H → Nat
  | (.string bytes, d) => bytes.length + uptoBulk d + 1
  | (_, d) => uptoBulk d + 1
 end
def uptoSmall : (H : Type) → List (DataW H) → Bool := fun _ ds => decide (uptoBulkAll ds ≤ 1048576)
def OpenSpec.upto (s : _root_.Go.ChangeSpec) : _root_.Go.OpenSpec := { _root_.Go.OpenSpec.ofChange s with cond := some uptoSmall }

/-- 'treenaillaw04.GroupEncodes', WHERE WHAT IT READS IS OF BULK AT MOST 1048576: true; the input reads as it did. -/
def groupEncodesUptoRow : OpenClaim := { program := "ytphbacggmhjmgaa", sum := "9f453ea4afffcaf4c7f3f9d0d5f4561b2c4345cd3344531b48220791ca739137", func := "treenail/treenaillaw04.GroupEncodes", spec := "groupEncodes", inPlace := ["math/bits.Add64", "math/bits.Sub64"], named := ["math/bits.divideError", "math/bits.overflowError"], apart := false, narrowed := true }
def GroupEncodesUptoSaid : Prop := groupEncodesUptoRow.holds Try.pinned (OpenSpec.upto groupEncodesSpec)

/-- 'treenaillaw04.GroupOrders', WHERE WHAT IT READS IS OF BULK AT MOST 1048576: true; the input reads as it did. -/
def groupOrdersUptoRow : OpenClaim := { program := "ytphbacggmhjmgaa", sum := "9f453ea4afffcaf4c7f3f9d0d5f4561b2c4345cd3344531b48220791ca739137", func := "treenail/treenaillaw04.GroupOrders", spec := "groupOrders", inPlace := ["math/bits.Add64", "math/bits.Sub64"], named := ["math/bits.divideError", "math/bits.overflowError"], apart := false, narrowed := true }
def GroupOrdersUptoSaid : Prop := groupOrdersUptoRow.holds Try.pinned (OpenSpec.upto groupOrdersSpec)

/-- 'treenaillaw04.GroupHalves', WHERE WHAT IT READS IS OF BULK AT MOST 1048576: true; the input reads as it did. -/
def groupHalvesUptoRow : OpenClaim := { program := "ytphbacggmhjmgaa", sum := "9f453ea4afffcaf4c7f3f9d0d5f4561b2c4345cd3344531b48220791ca739137", func := "treenail/treenaillaw04.GroupHalves", spec := "groupHalves", inPlace := ["math/bits.Add64", "math/bits.Sub64"], named := ["math/bits.divideError", "math/bits.overflowError"], apart := false, narrowed := true }
def GroupHalvesUptoSaid : Prop := groupHalvesUptoRow.holds Try.pinned (OpenSpec.upto groupHalvesSpec)

/-- 'treenaillaw04.GroupLaws', WHERE WHAT IT READS IS OF BULK AT MOST 1048576: true; the input reads as it did. -/
def groupLawsUptoRow : OpenClaim := { program := "ytphbacggmhjmgaa", sum := "9f453ea4afffcaf4c7f3f9d0d5f4561b2c4345cd3344531b48220791ca739137", func := "treenail/treenaillaw04.GroupLaws", spec := "groupLaws", inPlace := ["math/bits.Add64", "math/bits.Sub64"], named := ["math/bits.divideError", "math/bits.overflowError"], apart := false, narrowed := true }
def GroupLawsUptoSaid : Prop := groupLawsUptoRow.holds Try.pinned (OpenSpec.upto groupLawsSpec)

end Rows
end Go.Proofs.Ytphbacggmhjmgaa
