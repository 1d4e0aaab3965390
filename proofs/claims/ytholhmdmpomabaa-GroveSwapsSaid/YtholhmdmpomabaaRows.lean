/-
  No cell of these rows narrows 'for every input' (looked for: loops, veiled, ifaces, maps, wideKeys, modest, calm, conditions, laid).
  DERIVED. THE GIVEN ROWS OF THIS SEAT. 3 by the template 'for every input the law returns true; each argument reads behind the call as it read before'; 0 by the template 'total and deterministic' (their statements: YtholhmdmpomabaaTotals.lean).
  GIVEN WITH THE SEED: the statements are not yours to turn. If you find one false, say at which input.
  Laid BY PROGRAM, IN A SANDBOX (cutbox-rows.mjs): the forced cells as the released guide's own fill.sh prints them over the translation 0b4b57b81c441959… (all of the seat's roots in one cut). By AI agents, Wed Nov 11 2026. No macro, syntax, notation, axiom, sorry.
-/
import Derived.Test.YtholhmdmpomabaaChecked
import GoSem.Claim
import GoSem.ClaimJoined
import GoSem.ClaimMapViews
import Derived.JoinedTies
import Derived.KernelRfl
namespace Go.Proofs.Ytholhmdmpomabaa
/- THE CELL 'sum', in the pinned program and in every row, IS THE sha256 OF THE DUMP (.gsa) THAT YtholhmdmpomabaaProg.lean LOADS. Nothing in Lean hashes anything: it is a label: what it is worth is what the hold of that sum in a sandbox is worth. -/
noncomputable def Try.pinned : Pinned := { name := "ytholhmdmpomabaa", sum := "0b4b57b81c441959e30e1a076b3a11a060237a16b8b91a750538ead3703b621b", checked := Try.checked }
namespace Rows
def none {H : Type} : Left H := { results := [], args := [] }

/-- 'raftsmanlaw10.GroveSwaps': WHATEVER THE INPUT: true; the input reads as it did. -/
def groveSwapsSpec : ChangeSpec := { name := "groveSwaps", fn := fun _ => fun
  | [d1, d2, d3, d4, d5] => { results := [.lit (.bool true)], args := [d1, d2, d3, d4, d5] }
  | _ => none }
def groveSwapsRow : OpenClaim := { program := "ytholhmdmpomabaa", sum := "0b4b57b81c441959e30e1a076b3a11a060237a16b8b91a750538ead3703b621b", func := "raftsman/raftsmanlaw10.GroveSwaps", spec := "groveSwaps", apart := false }
def GroveSwapsSaid : Prop := groveSwapsRow.holds Try.pinned (OpenSpec.ofChange groveSwapsSpec)

/-- ITS FALSE NEIGHBOUR: 'it returns false'. Refute it at one input. -/
def groveSwapsWrong : ChangeSpec := { name := "groveSwaps", fn := fun _ => fun
  | [d1, d2, d3, d4, d5] => { results := [.lit (.bool false)], args := [d1, d2, d3, d4, d5] }
  | _ => none }
def GroveSwapsWrongFalsely : Prop := groveSwapsRow.holds Try.pinned (OpenSpec.ofChange groveSwapsWrong)

/-- 'raftsmanlaw10.GroveWays': WHATEVER THE INPUT: true; the input reads as it did. -/
def groveWaysSpec : ChangeSpec := { name := "groveWays", fn := fun _ => fun
  | [d1, d2, d3, d4] => { results := [.lit (.bool true)], args := [d1, d2, d3, d4] }
  | _ => none }
def groveWaysRow : OpenClaim := { program := "ytholhmdmpomabaa", sum := "0b4b57b81c441959e30e1a076b3a11a060237a16b8b91a750538ead3703b621b", func := "raftsman/raftsmanlaw10.GroveWays", spec := "groveWays", apart := false }
def GroveWaysSaid : Prop := groveWaysRow.holds Try.pinned (OpenSpec.ofChange groveWaysSpec)

/-- ITS FALSE NEIGHBOUR: 'it returns false'. Refute it at one input. -/
def groveWaysWrong : ChangeSpec := { name := "groveWays", fn := fun _ => fun
  | [d1, d2, d3, d4] => { results := [.lit (.bool false)], args := [d1, d2, d3, d4] }
  | _ => none }
def GroveWaysWrongFalsely : Prop := groveWaysRow.holds Try.pinned (OpenSpec.ofChange groveWaysWrong)

/-- 'raftsmanlaw10.GroveTrees': WHATEVER THE INPUT: true; the input reads as it did. -/
def groveTreesSpec : ChangeSpec := { name := "groveTrees", fn := fun _ => fun
  | [d1, d2] => { results := [.lit (.bool true)], args := [d1, d2] }
  | _ => none }
def groveTreesRow : OpenClaim := { program := "ytholhmdmpomabaa", sum := "0b4b57b81c441959e30e1a076b3a11a060237a16b8b91a750538ead3703b621b", func := "raftsman/raftsmanlaw10.GroveTrees", spec := "groveTrees", apart := false }
def GroveTreesSaid : Prop := groveTreesRow.holds Try.pinned (OpenSpec.ofChange groveTreesSpec)

/-- ITS FALSE NEIGHBOUR: 'it returns false'. Refute it at one input. -/
def groveTreesWrong : ChangeSpec := { name := "groveTrees", fn := fun _ => fun
  | [d1, d2] => { results := [.lit (.bool false)], args := [d1, d2] }
  | _ => none }
def GroveTreesWrongFalsely : Prop := groveTreesRow.holds Try.pinned (OpenSpec.ofChange groveTreesWrong)

/- THE SECOND FORM. 'bulk': how many values and letters a reading holds, each counted each time it is reached (what is shared counts as often as it is met; a slice's spare places count too). A statement '..UptoSaid' is the law's where the arguments, and the package variables that the reading takes, are together of bulk at most 1048576: NARROWER than '..Said'. Prove '..Said' where nothing that the law and all that it calls make is longer than what came in: it says more and counts as full. Else prove '..UptoSaid'. A law counts once. -/
mutual
def uptoBulk {H : Type} : DataW H → Nat
  | .lit (.string bytes) => bytes.length + 1
  | .lit _ => 1
  | .nil => 1
  | .ptr d => uptoBulk d + 1
  | .slice elems spare => uptoBulkAll elems + uptoBulkAll spare + 1
  | .agg parts => uptoBulkAll parts + 1
  | .iface _ d => uptoBulk d + 1
  | .map entries => uptoBulkEntries entries + 1
  | .held _ => 1
def uptoBulkAll {H : Type} : List (DataW H) → Nat
  | [] => 0
  | d :: r => uptoBulk d + uptoBulkAll r
def uptoBulkEntries {H : Type} : List (Lit × DataW H) → Nat
  | [] => 0
  | x :: r => uptoBulkEntry x + uptoBulkEntries r
def uptoBulkEntry {H : Type} : Lit × DataW H → Nat
  | (.string bytes, d) => bytes.length + uptoBulk d + 1
  | (_, d) => uptoBulk d + 1
 end
def uptoSmall : (H : Type) → List (DataW H) → Bool := fun _ ds => decide (uptoBulkAll ds ≤ 1048576)
def OpenSpec.upto (s : _root_.Go.ChangeSpec) : _root_.Go.OpenSpec := { _root_.Go.OpenSpec.ofChange s with cond := some uptoSmall }

/-- 'raftsmanlaw10.GroveSwaps', WHERE WHAT IT READS IS OF BULK AT MOST 1048576: true; the input reads as it did. -/
def groveSwapsUptoRow : OpenClaim := { program := "ytholhmdmpomabaa", sum := "0b4b57b81c441959e30e1a076b3a11a060237a16b8b91a750538ead3703b621b", func := "raftsman/raftsmanlaw10.GroveSwaps", spec := "groveSwaps", apart := false, narrowed := true }
def GroveSwapsUptoSaid : Prop := groveSwapsUptoRow.holds Try.pinned (OpenSpec.upto groveSwapsSpec)

/-- 'raftsmanlaw10.GroveWays', WHERE WHAT IT READS IS OF BULK AT MOST 1048576: true; the input reads as it did. -/
def groveWaysUptoRow : OpenClaim := { program := "ytholhmdmpomabaa", sum := "0b4b57b81c441959e30e1a076b3a11a060237a16b8b91a750538ead3703b621b", func := "raftsman/raftsmanlaw10.GroveWays", spec := "groveWays", apart := false, narrowed := true }
def GroveWaysUptoSaid : Prop := groveWaysUptoRow.holds Try.pinned (OpenSpec.upto groveWaysSpec)

/-- 'raftsmanlaw10.GroveTrees', WHERE WHAT IT READS IS OF BULK AT MOST 1048576: true; the input reads as it did. -/
def groveTreesUptoRow : OpenClaim := { program := "ytholhmdmpomabaa", sum := "0b4b57b81c441959e30e1a076b3a11a060237a16b8b91a750538ead3703b621b", func := "raftsman/raftsmanlaw10.GroveTrees", spec := "groveTrees", apart := false, narrowed := true }
def GroveTreesUptoSaid : Prop := groveTreesUptoRow.holds Try.pinned (OpenSpec.upto groveTreesSpec)

end Rows
end Go.Proofs.Ytholhmdmpomabaa
