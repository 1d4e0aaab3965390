/-
  No cell of these rows narrows 'for every input' (looked for: loops, veiled, ifaces, maps, wideKeys, modest, calm, conditions, laid).
  DERIVED. THE GIVEN ROWS OF THIS SEAT. 4 by the template 'for every input the law returns true; each argument reads behind the call as it read before'; 0 by the template 'total and deterministic' (their statements: YtomgbhnalhddiaaTotals.lean).
  GIVEN WITH THE SEED: the statements are not yours to turn. If you find one false, say at which input.
  Laid BY PROGRAM, IN A SANDBOX (cutbox-rows.mjs): the forced cells as the released guide's own fill.sh prints them over the translation c8ca1922a5a04f17… (all of the seat's roots in one cut). By AI agents, Wed Nov 11 2026. No macro, syntax, notation, axiom, sorry.
-/
import Derived.Test.YtomgbhnalhddiaaChecked
import GoSem.Claim
import GoSem.ClaimJoined
import GoSem.ClaimMapViews
import Derived.JoinedTies
import Derived.KernelRfl
namespace Go.Proofs.Ytomgbhnalhddiaa
/- THE CELL 'sum', in the pinned program and in every row, IS THE sha256 OF THE DUMP (.gsa) THAT YtomgbhnalhddiaaProg.lean LOADS. Nothing in Lean hashes anything: it is a label: what it is worth is what the hold of that sum in a sandbox is worth. -/
noncomputable def Try.pinned : Pinned := { name := "ytomgbhnalhddiaa", sum := "c8ca1922a5a04f17565790a121fa3ae248a83f75dfa94d7ace2d87a62a6b1827", checked := Try.checked }
namespace Rows
def none {H : Type} : Left H := { results := [], args := [] }

/-- 'raftsmanlaw05.SketchOf': WHATEVER THE INPUT: true; the input reads as it did. -/
def sketchOfSpec : ChangeSpec := { name := "sketchOf", fn := fun _ => fun
  | [d1, d2, d3, d4] => { results := [.lit (.bool true)], args := [d1, d2, d3, d4] }
  | _ => none }
def sketchOfRow : OpenClaim := { program := "ytomgbhnalhddiaa", sum := "c8ca1922a5a04f17565790a121fa3ae248a83f75dfa94d7ace2d87a62a6b1827", func := "raftsman/raftsmanlaw05.SketchOf", spec := "sketchOf", named := ["math/bits.divideError", "math/bits.overflowError"], apart := false }
def SketchOfSaid : Prop := sketchOfRow.holds Try.pinned (OpenSpec.ofChange sketchOfSpec)

/-- ITS FALSE NEIGHBOUR: 'it returns false'. Refute it at one input. -/
def sketchOfWrong : ChangeSpec := { name := "sketchOf", fn := fun _ => fun
  | [d1, d2, d3, d4] => { results := [.lit (.bool false)], args := [d1, d2, d3, d4] }
  | _ => none }
def SketchOfWrongFalsely : Prop := sketchOfRow.holds Try.pinned (OpenSpec.ofChange sketchOfWrong)

/-- 'raftsmanlaw05.SketchOne': WHATEVER THE INPUT: true; the input reads as it did. -/
def sketchOneSpec : ChangeSpec := { name := "sketchOne", fn := fun _ => fun
  | [d1, d2, d3] => { results := [.lit (.bool true)], args := [d1, d2, d3] }
  | _ => none }
def sketchOneRow : OpenClaim := { program := "ytomgbhnalhddiaa", sum := "c8ca1922a5a04f17565790a121fa3ae248a83f75dfa94d7ace2d87a62a6b1827", func := "raftsman/raftsmanlaw05.SketchOne", spec := "sketchOne", named := ["math/bits.divideError", "math/bits.overflowError"], apart := false }
def SketchOneSaid : Prop := sketchOneRow.holds Try.pinned (OpenSpec.ofChange sketchOneSpec)

/-- ITS FALSE NEIGHBOUR: 'it returns false'. Refute it at one input. -/
def sketchOneWrong : ChangeSpec := { name := "sketchOne", fn := fun _ => fun
  | [d1, d2, d3] => { results := [.lit (.bool false)], args := [d1, d2, d3] }
  | _ => none }
def SketchOneWrongFalsely : Prop := sketchOneRow.holds Try.pinned (OpenSpec.ofChange sketchOneWrong)

/-- 'raftsmanlaw05.SketchMerges': WHATEVER THE INPUT: true; the input reads as it did. -/
def sketchMergesSpec : ChangeSpec := { name := "sketchMerges", fn := fun _ => fun
  | [d1, d2, d3] => { results := [.lit (.bool true)], args := [d1, d2, d3] }
  | _ => none }
def sketchMergesRow : OpenClaim := { program := "ytomgbhnalhddiaa", sum := "c8ca1922a5a04f17565790a121fa3ae248a83f75dfa94d7ace2d87a62a6b1827", func := "raftsman/raftsmanlaw05.SketchMerges", spec := "sketchMerges", named := ["math/bits.divideError", "math/bits.overflowError"], apart := false }
def SketchMergesSaid : Prop := sketchMergesRow.holds Try.pinned (OpenSpec.ofChange sketchMergesSpec)

/-- ITS FALSE NEIGHBOUR: 'it returns false'. Refute it at one input. -/
def sketchMergesWrong : ChangeSpec := { name := "sketchMerges", fn := fun _ => fun
  | [d1, d2, d3] => { results := [.lit (.bool false)], args := [d1, d2, d3] }
  | _ => none }
def SketchMergesWrongFalsely : Prop := sketchMergesRow.holds Try.pinned (OpenSpec.ofChange sketchMergesWrong)

/-- 'raftsmanlaw05.SketchFirst': WHATEVER THE INPUT: true; the input reads as it did. -/
def sketchFirstSpec : ChangeSpec := { name := "sketchFirst", fn := fun _ => fun
  | [d1, d2, d3] => { results := [.lit (.bool true)], args := [d1, d2, d3] }
  | _ => none }
def sketchFirstRow : OpenClaim := { program := "ytomgbhnalhddiaa", sum := "c8ca1922a5a04f17565790a121fa3ae248a83f75dfa94d7ace2d87a62a6b1827", func := "raftsman/raftsmanlaw05.SketchFirst", spec := "sketchFirst", named := ["math/bits.divideError", "math/bits.overflowError"], apart := false }
def SketchFirstSaid : Prop := sketchFirstRow.holds Try.pinned (OpenSpec.ofChange sketchFirstSpec)

/-- ITS FALSE NEIGHBOUR: 'it returns false'. Refute it at one input. -/
def sketchFirstWrong : ChangeSpec := { name := "sketchFirst", fn := fun _ => fun
  | [d1, d2, d3] => { results := [.lit (.bool false)], args := [d1, d2, d3] }
  | _ => none }
def SketchFirstWrongFalsely : Prop := sketchFirstRow.holds Try.pinned (OpenSpec.ofChange sketchFirstWrong)

/- THE SECOND FORM. 'bulk': how many values and letters a reading holds, each counted each time it is reached (what is shared counts as often as it is met; a slice's spare places count too). A statement '..UptoSaid' is the law's where the arguments, and the package variables that the reading takes, are together of bulk at most 1048576: NARROWER than '..Said'. Prove '..Said' where nothing that the law and all that it calls make is longer than what came in: it says more and counts as full. Else prove '..UptoSaid'. A law counts once. -/
mutual
def uptoBulk {H : Type} : DataW H → Nat
  | .lit (.string bytes) => bytes.length + 1
  | .lit _ => 1
  | .nil => 1
  | .ptr d => uptoBulk d + 1
  | .slice elems spare => uptoBulkAll elems + uptoBulkAll spare + 1
  | .agg parts => uptoBulkAll parts + 1
  | .iface _ d => uptoBulk d + 1
  | .map entries => uptoBulkEntries entries + 1
  | .held _ => 1
def uptoBulkAll {H : Type} : List (DataW H) → Nat
  | [] => 0
  | d :: r => uptoBulk d + uptoBulkAll r
def uptoBulkEntries {H : Type} : List (Lit × DataW H) → Nat
  | [] => 0
  | x :: r => uptoBulkEntry x + uptoBulkEntries r
def uptoBulkEntry {H : Type} : Lit × DataW H → Nat
  | (.string bytes, d) => bytes.length + uptoBulk d + 1
  | (_, d) => uptoBulk d + 1
 end
def uptoSmall : (H : Type) → List (DataW H) → Bool := fun _ ds => decide (uptoBulkAll ds ≤ 1048576)
def OpenSpec.upto (s : _root_.Go.ChangeSpec) : _root_.Go.OpenSpec := { _root_.Go.OpenSpec.ofChange s with cond := some uptoSmall }

/-- 'raftsmanlaw05.SketchOf', WHERE WHAT IT READS IS OF BULK AT MOST 1048576: true; the input reads as it did. -/
def sketchOfUptoRow : OpenClaim := { program := "ytomgbhnalhddiaa", sum := "c8ca1922a5a04f17565790a121fa3ae248a83f75dfa94d7ace2d87a62a6b1827", func := "raftsman/raftsmanlaw05.SketchOf", spec := "sketchOf", named := ["math/bits.divideError", "math/bits.overflowError"], apart := false, narrowed := true }
def SketchOfUptoSaid : Prop := sketchOfUptoRow.holds Try.pinned (OpenSpec.upto sketchOfSpec)

/-- 'raftsmanlaw05.SketchOne', WHERE WHAT IT READS IS OF BULK AT MOST 1048576: true; the input reads as it did. -/
def sketchOneUptoRow : OpenClaim := { program := "ytomgbhnalhddiaa", sum := "c8ca1922a5a04f17565790a121fa3ae248a83f75dfa94d7ace2d87a62a6b1827", func := "raftsman/raftsmanlaw05.SketchOne", spec := "sketchOne", named := ["math/bits.divideError", "math/bits.overflowError"], apart := false, narrowed := true }
def SketchOneUptoSaid : Prop := sketchOneUptoRow.holds Try.pinned (OpenSpec.upto sketchOneSpec)

/-- 'raftsmanlaw05.SketchMerges', WHERE WHAT IT READS IS OF BULK AT MOST 1048576: true; the input reads as it did. -/
def sketchMergesUptoRow : OpenClaim := { program := "ytomgbhnalhddiaa", sum := "c8ca1922a5a04f17565790a121fa3ae248a83f75dfa94d7ace2d87a62a6b1827", func := "raftsman/raftsmanlaw05.SketchMerges", spec := "sketchMerges", named := ["math/bits.divideError", "math/bits.overflowError"], apart := false, narrowed := true }
def SketchMergesUptoSaid : Prop := sketchMergesUptoRow.holds Try.pinned (OpenSpec.upto sketchMergesSpec)

/-- 'raftsmanlaw05.SketchFirst', WHERE WHAT IT READS IS OF BULK AT MOST 1048576: true; the input reads as it did. -/
def sketchFirstUptoRow : OpenClaim := { program := "ytomgbhnalhddiaa", sum := "c8ca1922a5a04f17565790a121fa3ae248a83f75dfa94d7ace2d87a62a6b1827", func := "raftsman/raftsmanlaw05.SketchFirst", spec := "sketchFirst", named := ["math/bits.divideError", "math/bits.overflowError"], apart := false, narrowed := true }
def SketchFirstUptoSaid : Prop := sketchFirstUptoRow.holds Try.pinned (OpenSpec.upto sketchFirstSpec)

end Rows
end Go.Proofs.Ytomgbhnalhddiaa
