/-
  No cell of these rows narrows 'for every input' (looked for: loops, veiled, ifaces, maps, wideKeys, modest, calm, conditions, laid).
  DERIVED. THE GIVEN ROWS OF THIS SEAT. 3 by the template 'for every input the law returns true; each argument reads behind the call as it read before'; 0 by the template 'total and deterministic' (their statements: YtggcpajfkaichaaTotals.lean).
  GIVEN WITH THE SEED: the statements are not yours to turn. If you find one false, say at which input.
  Laid BY PROGRAM, IN A SANDBOX (cutbox-rows.mjs): the forced cells as the released guide's own fill.sh prints them over the translation 0627b1ab74f7825e… (all of the seat's roots in one cut). By AI agents, Wed Nov 11 2026. No macro, syntax, notation, axiom, sorry.
-/
import Derived.Test.YtggcpajfkaichaaChecked
import GoSem.Claim
import GoSem.ClaimJoined
import GoSem.ClaimMapViews
import Derived.JoinedTies
import Derived.KernelRfl
namespace Go.Proofs.Ytggcpajfkaichaa
/- THE CELL 'sum', in the pinned program and in every row, IS THE sha256 OF THE DUMP (.gsa) THAT YtggcpajfkaichaaProg.lean LOADS. Nothing in Lean hashes anything: it is a label: what it is worth is what the hold of that sum in a sandbox is worth. -/
noncomputable def Try.pinned : Pinned := { name := "ytggcpajfkaichaa", sum := "0627b1ab74f7825ea1b0103f7c16fe55ee346b73bd588e98dabdcf4263250b96", checked := Try.checked }
namespace Rows
def none {H : Type} : Left H := { results := [], args := [] }

/-- 'raftsmanlaw04.LevelBounds': WHATEVER THE INPUT: true; the input reads as it did. -/
def levelBoundsSpec : ChangeSpec := { name := "levelBounds", fn := fun _ => fun
  | [d1, d2] => { results := [.lit (.bool true)], args := [d1, d2] }
  | _ => none }
def levelBoundsRow : OpenClaim := { program := "ytggcpajfkaichaa", sum := "0627b1ab74f7825ea1b0103f7c16fe55ee346b73bd588e98dabdcf4263250b96", func := "raftsman/raftsmanlaw04.LevelBounds", spec := "levelBounds", named := ["math/bits.divideError", "math/bits.overflowError"], apart := false }
def LevelBoundsSaid : Prop := levelBoundsRow.holds Try.pinned (OpenSpec.ofChange levelBoundsSpec)

/-- ITS FALSE NEIGHBOUR: 'it returns false'. Refute it at one input. -/
def levelBoundsWrong : ChangeSpec := { name := "levelBounds", fn := fun _ => fun
  | [d1, d2] => { results := [.lit (.bool false)], args := [d1, d2] }
  | _ => none }
def LevelBoundsWrongFalsely : Prop := levelBoundsRow.holds Try.pinned (OpenSpec.ofChange levelBoundsWrong)

/-- 'raftsmanlaw04.LevelSums': WHATEVER THE INPUT: true; the input reads as it did. -/
def levelSumsSpec : ChangeSpec := { name := "levelSums", fn := fun _ => fun
  | [d1, d2, d3] => { results := [.lit (.bool true)], args := [d1, d2, d3] }
  | _ => none }
def levelSumsRow : OpenClaim := { program := "ytggcpajfkaichaa", sum := "0627b1ab74f7825ea1b0103f7c16fe55ee346b73bd588e98dabdcf4263250b96", func := "raftsman/raftsmanlaw04.LevelSums", spec := "levelSums", named := ["math/bits.divideError", "math/bits.overflowError"], apart := false }
def LevelSumsSaid : Prop := levelSumsRow.holds Try.pinned (OpenSpec.ofChange levelSumsSpec)

/-- ITS FALSE NEIGHBOUR: 'it returns false'. Refute it at one input. -/
def levelSumsWrong : ChangeSpec := { name := "levelSums", fn := fun _ => fun
  | [d1, d2, d3] => { results := [.lit (.bool false)], args := [d1, d2, d3] }
  | _ => none }
def LevelSumsWrongFalsely : Prop := levelSumsRow.holds Try.pinned (OpenSpec.ofChange levelSumsWrong)

/-- 'raftsmanlaw04.LevelOnce': WHATEVER THE INPUT: true; the input reads as it did. -/
def levelOnceSpec : ChangeSpec := { name := "levelOnce", fn := fun _ => fun
  | [d1, d2] => { results := [.lit (.bool true)], args := [d1, d2] }
  | _ => none }
def levelOnceRow : OpenClaim := { program := "ytggcpajfkaichaa", sum := "0627b1ab74f7825ea1b0103f7c16fe55ee346b73bd588e98dabdcf4263250b96", func := "raftsman/raftsmanlaw04.LevelOnce", spec := "levelOnce", named := ["math/bits.divideError", "math/bits.overflowError"], apart := false }
def LevelOnceSaid : Prop := levelOnceRow.holds Try.pinned (OpenSpec.ofChange levelOnceSpec)

/-- ITS FALSE NEIGHBOUR: 'it returns false'. Refute it at one input. -/
def levelOnceWrong : ChangeSpec := { name := "levelOnce", fn := fun _ => fun
  | [d1, d2] => { results := [.lit (.bool false)], args := [d1, d2] }
  | _ => none }
def LevelOnceWrongFalsely : Prop := levelOnceRow.holds Try.pinned (OpenSpec.ofChange levelOnceWrong)

/- THE SECOND FORM. 'bulk': how many values and letters a reading holds, each counted each time it is reached (what is shared counts as often as it is met; a slice's spare places count too). A statement '..UptoSaid' is the law's where the arguments, and the package variables that the reading takes, are together of bulk at most 1048576: NARROWER than '..Said'. Prove '..Said' where nothing that the law and all that it calls make is longer than what came in: it says more and counts as full. Else prove '..UptoSaid'. A law counts once. -/
mutual
def uptoBulk {H : Type} : DataW H → Nat
  | .lit (.string bytes) => bytes.length + 1
  | .lit _ => 1
  | .nil => 1
  | .ptr d => uptoBulk d + 1
  | .slice elems spare => uptoBulkAll elems + uptoBulkAll spare + 1
  | .agg parts => uptoBulkAll parts + 1
  | .iface _ d => uptoBulk d + 1
  | .map entries => uptoBulkEntries entries + 1
  | .held _ => 1
def uptoBulkAll {H : Type} : List (DataW H) → Nat
  | [] => 0
  | d :: r => uptoBulk d + uptoBulkAll r
def uptoBulkEntries {H : Type} : List (Lit × DataW H) → Nat
  | [] => 0
  | x :: r => uptoBulkEntry x + uptoBulkEntries r
def uptoBulkEntry {H : Type} : Lit × DataW H → Nat
  | (.string bytes, d) => bytes.length + uptoBulk d + 1
  | (_, d) => uptoBulk d + 1
 end
def uptoSmall : (H : Type) → List (DataW H) → Bool := fun _ ds => decide (uptoBulkAll ds ≤ 1048576)
def OpenSpec.upto (s : _root_.Go.ChangeSpec) : _root_.Go.OpenSpec := { _root_.Go.OpenSpec.ofChange s with cond := some uptoSmall }

/-- 'raftsmanlaw04.LevelBounds', WHERE WHAT IT READS IS OF BULK AT MOST 1048576: true; the input reads as it did. -/
def levelBoundsUptoRow : OpenClaim := { program := "ytggcpajfkaichaa", sum := "0627b1ab74f7825ea1b0103f7c16fe55ee346b73bd588e98dabdcf4263250b96", func := "raftsman/raftsmanlaw04.LevelBounds", spec := "levelBounds", named := ["math/bits.divideError", "math/bits.overflowError"], apart := false, narrowed := true }
def LevelBoundsUptoSaid : Prop := levelBoundsUptoRow.holds Try.pinned (OpenSpec.upto levelBoundsSpec)

/-- 'raftsmanlaw04.LevelSums', WHERE WHAT IT READS IS OF BULK AT MOST 1048576: true; the input reads as it did. -/
def levelSumsUptoRow : OpenClaim := { program := "ytggcpajfkaichaa", sum := "0627b1ab74f7825ea1b0103f7c16fe55ee346b73bd588e98dabdcf4263250b96", func := "raftsman/raftsmanlaw04.LevelSums", spec := "levelSums", named := ["math/bits.divideError", "math/bits.overflowError"], apart := false, narrowed := true }
def LevelSumsUptoSaid : Prop := levelSumsUptoRow.holds Try.pinned (OpenSpec.upto levelSumsSpec)

/-- 'raftsmanlaw04.LevelOnce', WHERE WHAT IT READS IS OF BULK AT MOST 1048576: true; the input reads as it did. -/
def levelOnceUptoRow : OpenClaim := { program := "ytggcpajfkaichaa", sum := "0627b1ab74f7825ea1b0103f7c16fe55ee346b73bd588e98dabdcf4263250b96", func := "raftsman/raftsmanlaw04.LevelOnce", spec := "levelOnce", named := ["math/bits.divideError", "math/bits.overflowError"], apart := false, narrowed := true }
def LevelOnceUptoSaid : Prop := levelOnceUptoRow.holds Try.pinned (OpenSpec.upto levelOnceSpec)

end Rows
end Go.Proofs.Ytggcpajfkaichaa
