/-
  No cell of these rows narrows 'for every input' (looked for: loops, veiled, ifaces, maps, wideKeys, modest, calm, conditions, laid).
  DERIVED. THE GIVEN ROWS OF THIS SEAT. 8 by the template 'for every input the law returns true; each argument reads behind the call as it read before'; 0 by the template 'total and deterministic' (their statements: YtigdeaeoejpnlaaTotals.lean).
  GIVEN WITH THE SEED: the statements are not yours to turn. If you find one false, say at which input.
  Laid BY PROGRAM, IN A SANDBOX (cutbox-rows.mjs): the forced cells as the released guide's own fill.sh prints them over the translation c13e1473011aa35e… (all of the seat's roots in one cut). By AI agents, Wed Nov 11 2026. No macro, syntax, notation, axiom, sorry.
-/
import Derived.Test.YtigdeaeoejpnlaaChecked
import GoSem.Claim
import GoSem.ClaimJoined
import GoSem.ClaimMapViews
import Derived.JoinedTies
import Derived.KernelRfl
namespace Go.Proofs.Ytigdeaeoejpnlaa
/- THE CELL 'sum', in the pinned program and in every row, IS THE sha256 OF THE DUMP (.gsa) THAT YtigdeaeoejpnlaaProg.lean LOADS. Nothing in Lean hashes anything: it is a label: what it is worth is what the hold of that sum in a sandbox is worth. -/
noncomputable def Try.pinned : Pinned := { name := "ytigdeaeoejpnlaa", sum := "c13e1473011aa35e1195a43413c9ebe27e0e2f53199f86236ec5c0587ceec5fb", checked := Try.checked }
namespace Rows
def none {H : Type} : Left H := { results := [], args := [] }

/-- 'treenaillaw14.NetFull': WHATEVER THE INPUT: true; the input reads as it did. -/
def netFullSpec : ChangeSpec := { name := "netFull", fn := fun _ => fun
  | [d] => { results := [.lit (.bool true)], args := [d] }
  | _ => none }
def netFullRow : OpenClaim := { program := "ytigdeaeoejpnlaa", sum := "c13e1473011aa35e1195a43413c9ebe27e0e2f53199f86236ec5c0587ceec5fb", func := "treenail/treenaillaw14.NetFull", spec := "netFull", apart := false }
def NetFullSaid : Prop := netFullRow.holds Try.pinned (OpenSpec.ofChange netFullSpec)

/-- ITS FALSE NEIGHBOUR: 'it returns false'. Refute it at one input. -/
def netFullWrong : ChangeSpec := { name := "netFull", fn := fun _ => fun
  | [d] => { results := [.lit (.bool false)], args := [d] }
  | _ => none }
def NetFullWrongFalsely : Prop := netFullRow.holds Try.pinned (OpenSpec.ofChange netFullWrong)

/-- 'treenaillaw14.NetPlays': WHATEVER THE INPUT: true; the input reads as it did. -/
def netPlaysSpec : ChangeSpec := { name := "netPlays", fn := fun _ => fun
  | [d] => { results := [.lit (.bool true)], args := [d] }
  | _ => none }
def netPlaysRow : OpenClaim := { program := "ytigdeaeoejpnlaa", sum := "c13e1473011aa35e1195a43413c9ebe27e0e2f53199f86236ec5c0587ceec5fb", func := "treenail/treenaillaw14.NetPlays", spec := "netPlays", apart := false }
def NetPlaysSaid : Prop := netPlaysRow.holds Try.pinned (OpenSpec.ofChange netPlaysSpec)

/-- ITS FALSE NEIGHBOUR: 'it returns false'. Refute it at one input. -/
def netPlaysWrong : ChangeSpec := { name := "netPlays", fn := fun _ => fun
  | [d] => { results := [.lit (.bool false)], args := [d] }
  | _ => none }
def NetPlaysWrongFalsely : Prop := netPlaysRow.holds Try.pinned (OpenSpec.ofChange netPlaysWrong)

/-- 'treenaillaw14.NetOrder': WHATEVER THE INPUT: true; the input reads as it did. -/
def netOrderSpec : ChangeSpec := { name := "netOrder", fn := fun _ => fun
  | [d1, d2] => { results := [.lit (.bool true)], args := [d1, d2] }
  | _ => none }
def netOrderRow : OpenClaim := { program := "ytigdeaeoejpnlaa", sum := "c13e1473011aa35e1195a43413c9ebe27e0e2f53199f86236ec5c0587ceec5fb", func := "treenail/treenaillaw14.NetOrder", spec := "netOrder", apart := false }
def NetOrderSaid : Prop := netOrderRow.holds Try.pinned (OpenSpec.ofChange netOrderSpec)

/-- ITS FALSE NEIGHBOUR: 'it returns false'. Refute it at one input. -/
def netOrderWrong : ChangeSpec := { name := "netOrder", fn := fun _ => fun
  | [d1, d2] => { results := [.lit (.bool false)], args := [d1, d2] }
  | _ => none }
def NetOrderWrongFalsely : Prop := netOrderRow.holds Try.pinned (OpenSpec.ofChange netOrderWrong)

/-- 'treenaillaw02.MontPowers': WHATEVER THE INPUT: true; the input reads as it did. -/
def montPowersSpec : ChangeSpec := { name := "montPowers", fn := fun _ => fun
  | [d1, d2, d3] => { results := [.lit (.bool true)], args := [d1, d2, d3] }
  | _ => none }
def montPowersRow : OpenClaim := { program := "ytigdeaeoejpnlaa", sum := "c13e1473011aa35e1195a43413c9ebe27e0e2f53199f86236ec5c0587ceec5fb", func := "treenail/treenaillaw02.MontPowers", spec := "montPowers", inPlace := ["math/bits.Add64", "math/bits.Sub64"], named := ["math/bits.divideError", "math/bits.overflowError"], apart := false }
def MontPowersSaid : Prop := montPowersRow.holds Try.pinned (OpenSpec.ofChange montPowersSpec)

/-- ITS FALSE NEIGHBOUR: 'it returns false'. Refute it at one input. -/
def montPowersWrong : ChangeSpec := { name := "montPowers", fn := fun _ => fun
  | [d1, d2, d3] => { results := [.lit (.bool false)], args := [d1, d2, d3] }
  | _ => none }
def MontPowersWrongFalsely : Prop := montPowersRow.holds Try.pinned (OpenSpec.ofChange montPowersWrong)

/-- 'treenaillaw02.MontInverts': WHATEVER THE INPUT: true; the input reads as it did. -/
def montInvertsSpec : ChangeSpec := { name := "montInverts", fn := fun _ => fun
  | [d1, d2] => { results := [.lit (.bool true)], args := [d1, d2] }
  | _ => none }
def montInvertsRow : OpenClaim := { program := "ytigdeaeoejpnlaa", sum := "c13e1473011aa35e1195a43413c9ebe27e0e2f53199f86236ec5c0587ceec5fb", func := "treenail/treenaillaw02.MontInverts", spec := "montInverts", inPlace := ["math/bits.Add64", "math/bits.Sub64"], named := ["math/bits.divideError", "math/bits.overflowError"], apart := false }
def MontInvertsSaid : Prop := montInvertsRow.holds Try.pinned (OpenSpec.ofChange montInvertsSpec)

/-- ITS FALSE NEIGHBOUR: 'it returns false'. Refute it at one input. -/
def montInvertsWrong : ChangeSpec := { name := "montInverts", fn := fun _ => fun
  | [d1, d2] => { results := [.lit (.bool false)], args := [d1, d2] }
  | _ => none }
def MontInvertsWrongFalsely : Prop := montInvertsRow.holds Try.pinned (OpenSpec.ofChange montInvertsWrong)

/-- 'treenaillaw02.MontWhole': WHATEVER THE INPUT: true; the input reads as it did. -/
def montWholeSpec : ChangeSpec := { name := "montWhole", fn := fun _ => fun
  | [d1, d2, d3] => { results := [.lit (.bool true)], args := [d1, d2, d3] }
  | _ => none }
def montWholeRow : OpenClaim := { program := "ytigdeaeoejpnlaa", sum := "c13e1473011aa35e1195a43413c9ebe27e0e2f53199f86236ec5c0587ceec5fb", func := "treenail/treenaillaw02.MontWhole", spec := "montWhole", inPlace := ["math/bits.Add64", "math/bits.Sub64"], named := ["math/bits.divideError", "math/bits.overflowError"], apart := false }
def MontWholeSaid : Prop := montWholeRow.holds Try.pinned (OpenSpec.ofChange montWholeSpec)

/-- ITS FALSE NEIGHBOUR: 'it returns false'. Refute it at one input. -/
def montWholeWrong : ChangeSpec := { name := "montWhole", fn := fun _ => fun
  | [d1, d2, d3] => { results := [.lit (.bool false)], args := [d1, d2, d3] }
  | _ => none }
def MontWholeWrongFalsely : Prop := montWholeRow.holds Try.pinned (OpenSpec.ofChange montWholeWrong)

/-- 'treenaillaw02.MontLaws': WHATEVER THE INPUT: true; the input reads as it did. -/
def montLawsSpec : ChangeSpec := { name := "montLaws", fn := fun _ => fun
  | [d1, d2, d3, d4, d5] => { results := [.lit (.bool true)], args := [d1, d2, d3, d4, d5] }
  | _ => none }
def montLawsRow : OpenClaim := { program := "ytigdeaeoejpnlaa", sum := "c13e1473011aa35e1195a43413c9ebe27e0e2f53199f86236ec5c0587ceec5fb", func := "treenail/treenaillaw02.MontLaws", spec := "montLaws", inPlace := ["math/bits.Add64", "math/bits.Sub64"], named := ["math/bits.divideError", "math/bits.overflowError"], apart := false }
def MontLawsSaid : Prop := montLawsRow.holds Try.pinned (OpenSpec.ofChange montLawsSpec)

/-- ITS FALSE NEIGHBOUR: 'it returns false'. Refute it at one input. -/
def montLawsWrong : ChangeSpec := { name := "montLaws", fn := fun _ => fun
  | [d1, d2, d3, d4, d5] => { results := [.lit (.bool false)], args := [d1, d2, d3, d4, d5] }
  | _ => none }
def MontLawsWrongFalsely : Prop := montLawsRow.holds Try.pinned (OpenSpec.ofChange montLawsWrong)

/-- 'treenaillaw02.MontStays': WHATEVER THE INPUT: true; the input reads as it did. -/
def montStaysSpec : ChangeSpec := { name := "montStays", fn := fun _ => fun
  | [d1, d2, d3] => { results := [.lit (.bool true)], args := [d1, d2, d3] }
  | _ => none }
def montStaysRow : OpenClaim := { program := "ytigdeaeoejpnlaa", sum := "c13e1473011aa35e1195a43413c9ebe27e0e2f53199f86236ec5c0587ceec5fb", func := "treenail/treenaillaw02.MontStays", spec := "montStays", inPlace := ["math/bits.Add64", "math/bits.Sub64"], named := ["math/bits.divideError", "math/bits.overflowError"], apart := false }
def MontStaysSaid : Prop := montStaysRow.holds Try.pinned (OpenSpec.ofChange montStaysSpec)

/-- ITS FALSE NEIGHBOUR: 'it returns false'. Refute it at one input. -/
def montStaysWrong : ChangeSpec := { name := "montStays", fn := fun _ => fun
  | [d1, d2, d3] => { results := [.lit (.bool false)], args := [d1, d2, d3] }
  | _ => none }
def MontStaysWrongFalsely : Prop := montStaysRow.holds Try.pinned (OpenSpec.ofChange montStaysWrong)

/- THE SECOND FORM. 'bulk': how many values and letters a reading holds, each counted each time it is reached (what is shared counts as often as it is met; a slice's spare places count too). A statement '..UptoSaid' is the law's where the arguments, and the package variables that the reading takes, are together of bulk at most 1048576: NARROWER than '..Said'. Prove '..Said' where nothing that the law and all that it calls make is longer than what came in: it says more and counts as full. Else prove '..UptoSaid'. A law counts once. -/
mutual
def uptoBulk {H : Type} : DataW H → Nat
  | .lit (.string bytes) => bytes.length + 1
  | .lit _ => 1
  | .nil => 1
  | .ptr d => uptoBulk d + 1
  | .slice elems spare => uptoBulkAll elems + uptoBulkAll spare + 1
  | .agg parts => uptoBulkAll parts + 1
  | .iface _ d => uptoBulk d + 1
  | .map entries => uptoBulkEntries entries + 1
  | .held _ => 1
def uptoBulkAll {H : Type} : List (DataW H) → Nat
  | [] => 0
  | d :: r => uptoBulk d + uptoBulkAll r
def uptoBulkEntries {H : Type} : List (Lit × DataW H) → Nat
  | [] => 0
  | x :: r => uptoBulkEntry x + uptoBulkEntries r
def uptoBulkEntry {H : Type} : Lit × DataW H → Nat
  | (.string bytes, d) => bytes.length + uptoBulk d + 1
  | (_, d) => uptoBulk d + 1
 end
def uptoSmall : (H : Type) → List (DataW H) → Bool := fun _ ds => decide (uptoBulkAll ds ≤ 1048576)
def OpenSpec.upto (s : _root_.Go.ChangeSpec) : _root_.Go.OpenSpec := { _root_.Go.OpenSpec.ofChange s with cond := some uptoSmall }

/-- 'treenaillaw14.NetFull', WHERE WHAT IT READS IS OF BULK AT MOST 1048576: true; the input reads as it did. -/
def netFullUptoRow : OpenClaim := { program := "ytigdeaeoejpnlaa", sum := "c13e1473011aa35e1195a43413c9ebe27e0e2f53199f86236ec5c0587ceec5fb", func := "treenail/treenaillaw14.NetFull", spec := "netFull", apart := false, narrowed := true }
def NetFullUptoSaid : Prop := netFullUptoRow.holds Try.pinned (OpenSpec.upto netFullSpec)

/-- 'treenaillaw14.NetPlays', WHERE WHAT IT READS IS OF BULK AT MOST 1048576: true; the input reads as it did. -/
def netPlaysUptoRow : OpenClaim := { program := "ytigdeaeoejpnlaa", sum := "c13e1473011aa35e1195a43413c9ebe27e0e2f53199f86236ec5c0587ceec5fb", func := "treenail/treenaillaw14.NetPlays", spec := "netPlays", apart := false, narrowed := true }
def NetPlaysUptoSaid : Prop := netPlaysUptoRow.holds Try.pinned (OpenSpec.upto netPlaysSpec)

/-- 'treenaillaw14.NetOrder', WHERE WHAT IT READS IS OF BULK AT MOST 1048576: true; the input reads as it did. -/
def netOrderUptoRow : OpenClaim := { program := "ytigdeaeoejpnlaa", sum := "c13e1473011aa35e1195a43413c9ebe27e0e2f53199f86236ec5c0587ceec5fb", func := "treenail/treenaillaw14.NetOrder", spec := "netOrder", apart := false, narrowed := true }
def NetOrderUptoSaid : Prop := netOrderUptoRow.holds Try.pinned (OpenSpec.upto netOrderSpec)

/-- 'treenaillaw02.MontPowers', WHERE WHAT IT READS IS OF BULK AT MOST 1048576: true; the input reads as it did. -/
def montPowersUptoRow : OpenClaim := { program := "ytigdeaeoejpnlaa", sum := "c13e1473011aa35e1195a43413c9ebe27e0e2f53199f86236ec5c0587ceec5fb", func := "treenail/treenaillaw02.MontPowers", spec := "montPowers", inPlace := ["math/bits.Add64", "math/bits.Sub64"], named := ["math/bits.divideError", "math/bits.overflowError"], apart := false, narrowed := true }
def MontPowersUptoSaid : Prop := montPowersUptoRow.holds Try.pinned (OpenSpec.upto montPowersSpec)

/-- 'treenaillaw02.MontInverts', WHERE WHAT IT READS IS OF BULK AT MOST 1048576: true; the input reads as it did. -/
def montInvertsUptoRow : OpenClaim := { program := "ytigdeaeoejpnlaa", sum := "c13e1473011aa35e1195a43413c9ebe27e0e2f53199f86236ec5c0587ceec5fb", func := "treenail/treenaillaw02.MontInverts", spec := "montInverts", inPlace := ["math/bits.Add64", "math/bits.Sub64"], named := ["math/bits.divideError", "math/bits.overflowError"], apart := false, narrowed := true }
def MontInvertsUptoSaid : Prop := montInvertsUptoRow.holds Try.pinned (OpenSpec.upto montInvertsSpec)

/-- 'treenaillaw02.MontWhole', WHERE WHAT IT READS IS OF BULK AT MOST 1048576: true; the input reads as it did. -/
def montWholeUptoRow : OpenClaim := { program := "ytigdeaeoejpnlaa", sum := "c13e1473011aa35e1195a43413c9ebe27e0e2f53199f86236ec5c0587ceec5fb", func := "treenail/treenaillaw02.MontWhole", spec := "montWhole", inPlace := ["math/bits.Add64", "math/bits.Sub64"], named := ["math/bits.divideError", "math/bits.overflowError"], apart := false, narrowed := true }
def MontWholeUptoSaid : Prop := montWholeUptoRow.holds Try.pinned (OpenSpec.upto montWholeSpec)

/-- 'treenaillaw02.MontLaws', WHERE WHAT IT READS IS OF BULK AT MOST 1048576: true; the input reads as it did. -/
def montLawsUptoRow : OpenClaim := { program := "ytigdeaeoejpnlaa", sum := "c13e1473011aa35e1195a43413c9ebe27e0e2f53199f86236ec5c0587ceec5fb", func := "treenail/treenaillaw02.MontLaws", spec := "montLaws", inPlace := ["math/bits.Add64", "math/bits.Sub64"], named := ["math/bits.divideError", "math/bits.overflowError"], apart := false, narrowed := true }
def MontLawsUptoSaid : Prop := montLawsUptoRow.holds Try.pinned (OpenSpec.upto montLawsSpec)

/-- 'treenaillaw02.MontStays', WHERE WHAT IT READS IS OF BULK AT MOST 1048576: true; the input reads as it did. -/
def montStaysUptoRow : OpenClaim := { program := "ytigdeaeoejpnlaa", sum := "c13e1473011aa35e1195a43413c9ebe27e0e2f53199f86236ec5c0587ceec5fb", func := "treenail/treenaillaw02.MontStays", spec := "montStays", inPlace := ["math/bits.Add64", "math/bits.Sub64"], named := ["math/bits.divideError", "math/bits.overflowError"], apart := false, narrowed := true }
def MontStaysUptoSaid : Prop := montStaysUptoRow.holds Try.pinned (OpenSpec.upto montStaysSpec)

end Rows
end Go.Proofs.Ytigdeaeoejpnlaa
