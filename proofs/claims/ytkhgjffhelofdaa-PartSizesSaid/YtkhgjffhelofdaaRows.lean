/-
  No cell of these rows narrows 'for every input' (looked for: loops, veiled, ifaces, maps, wideKeys, modest, calm, conditions, laid).
  DERIVED. THE GIVEN ROWS OF THIS SEAT. 6 by the template 'for every input the law returns true; each argument reads behind the call as it read before'; 0 by the template 'total and deterministic' (their statements: YtkhgjffhelofdaaTotals.lean).
  GIVEN WITH THE SEED: the statements are not yours to turn. If you find one false, say at which input.
  Laid BY PROGRAM, IN A SANDBOX (cutbox-rows.mjs): the forced cells as the released guide's own fill.sh prints them over the translation 1b64c3d75577c0dc… (all of the seat's roots in one cut). By AI agents, Wed Nov 11 2026. No macro, syntax, notation, axiom, sorry.
-/
import Derived.Test.YtkhgjffhelofdaaChecked
import GoSem.Claim
import GoSem.ClaimJoined
import GoSem.ClaimMapViews
import Derived.JoinedTies
import Derived.KernelRfl
namespace Go.Proofs.Ytkhgjffhelofdaa
/- THE CELL 'sum', in the pinned program and in every row, IS THE sha256 OF THE DUMP (.gsa) THAT YtkhgjffhelofdaaProg.lean LOADS. Nothing in Lean hashes anything: it is a label: what it is worth is what the hold of that sum in a sandbox is worth. -/
noncomputable def Try.pinned : Pinned := { name := "ytkhgjffhelofdaa", sum := "1b64c3d75577c0dce94cfdf991556a0001b21b316e8861585de1d6f35604f761", checked := Try.checked }
namespace Rows
def none {H : Type} : Left H := { results := [], args := [] }

/-- 'raftsmanlaw09.PartOf': WHATEVER THE INPUT: true; the input reads as it did. -/
def partOfSpec : ChangeSpec := { name := "partOf", fn := fun _ => fun
  | [d1, d2] => { results := [.lit (.bool true)], args := [d1, d2] }
  | _ => none }
def partOfRow : OpenClaim := { program := "ytkhgjffhelofdaa", sum := "1b64c3d75577c0dce94cfdf991556a0001b21b316e8861585de1d6f35604f761", func := "raftsman/raftsmanlaw09.PartOf", spec := "partOf", apart := false }
def PartOfSaid : Prop := partOfRow.holds Try.pinned (OpenSpec.ofChange partOfSpec)

/-- ITS FALSE NEIGHBOUR: 'it returns false'. Refute it at one input. -/
def partOfWrong : ChangeSpec := { name := "partOf", fn := fun _ => fun
  | [d1, d2] => { results := [.lit (.bool false)], args := [d1, d2] }
  | _ => none }
def PartOfWrongFalsely : Prop := partOfRow.holds Try.pinned (OpenSpec.ofChange partOfWrong)

/-- 'raftsmanlaw09.PartMore': WHATEVER THE INPUT: true; the input reads as it did. -/
def partMoreSpec : ChangeSpec := { name := "partMore", fn := fun _ => fun
  | [d1, d2, d3, d4, d5] => { results := [.lit (.bool true)], args := [d1, d2, d3, d4, d5] }
  | _ => none }
def partMoreRow : OpenClaim := { program := "ytkhgjffhelofdaa", sum := "1b64c3d75577c0dce94cfdf991556a0001b21b316e8861585de1d6f35604f761", func := "raftsman/raftsmanlaw09.PartMore", spec := "partMore", apart := false }
def PartMoreSaid : Prop := partMoreRow.holds Try.pinned (OpenSpec.ofChange partMoreSpec)

/-- ITS FALSE NEIGHBOUR: 'it returns false'. Refute it at one input. -/
def partMoreWrong : ChangeSpec := { name := "partMore", fn := fun _ => fun
  | [d1, d2, d3, d4, d5] => { results := [.lit (.bool false)], args := [d1, d2, d3, d4, d5] }
  | _ => none }
def PartMoreWrongFalsely : Prop := partMoreRow.holds Try.pinned (OpenSpec.ofChange partMoreWrong)

/-- 'raftsmanlaw09.PartSizes': WHATEVER THE INPUT: true; the input reads as it did. -/
def partSizesSpec : ChangeSpec := { name := "partSizes", fn := fun _ => fun
  | [d1, d2, d3] => { results := [.lit (.bool true)], args := [d1, d2, d3] }
  | _ => none }
def partSizesRow : OpenClaim := { program := "ytkhgjffhelofdaa", sum := "1b64c3d75577c0dce94cfdf991556a0001b21b316e8861585de1d6f35604f761", func := "raftsman/raftsmanlaw09.PartSizes", spec := "partSizes", apart := false }
def PartSizesSaid : Prop := partSizesRow.holds Try.pinned (OpenSpec.ofChange partSizesSpec)

/-- ITS FALSE NEIGHBOUR: 'it returns false'. Refute it at one input. -/
def partSizesWrong : ChangeSpec := { name := "partSizes", fn := fun _ => fun
  | [d1, d2, d3] => { results := [.lit (.bool false)], args := [d1, d2, d3] }
  | _ => none }
def PartSizesWrongFalsely : Prop := partSizesRow.holds Try.pinned (OpenSpec.ofChange partSizesWrong)

/-- 'raftsmanlaw09.PartJoins': WHATEVER THE INPUT: true; the input reads as it did. -/
def partJoinsSpec : ChangeSpec := { name := "partJoins", fn := fun _ => fun
  | [d1, d2, d3, d4] => { results := [.lit (.bool true)], args := [d1, d2, d3, d4] }
  | _ => none }
def partJoinsRow : OpenClaim := { program := "ytkhgjffhelofdaa", sum := "1b64c3d75577c0dce94cfdf991556a0001b21b316e8861585de1d6f35604f761", func := "raftsman/raftsmanlaw09.PartJoins", spec := "partJoins", apart := false }
def PartJoinsSaid : Prop := partJoinsRow.holds Try.pinned (OpenSpec.ofChange partJoinsSpec)

/-- ITS FALSE NEIGHBOUR: 'it returns false'. Refute it at one input. -/
def partJoinsWrong : ChangeSpec := { name := "partJoins", fn := fun _ => fun
  | [d1, d2, d3, d4] => { results := [.lit (.bool false)], args := [d1, d2, d3, d4] }
  | _ => none }
def PartJoinsWrongFalsely : Prop := partJoinsRow.holds Try.pinned (OpenSpec.ofChange partJoinsWrong)

/-- 'raftsmanlaw09.PartLeast': WHATEVER THE INPUT: true; the input reads as it did. -/
def partLeastSpec : ChangeSpec := { name := "partLeast", fn := fun _ => fun
  | [d] => { results := [.lit (.bool true)], args := [d] }
  | _ => none }
def partLeastRow : OpenClaim := { program := "ytkhgjffhelofdaa", sum := "1b64c3d75577c0dce94cfdf991556a0001b21b316e8861585de1d6f35604f761", func := "raftsman/raftsmanlaw09.PartLeast", spec := "partLeast", apart := false }
def PartLeastSaid : Prop := partLeastRow.holds Try.pinned (OpenSpec.ofChange partLeastSpec)

/-- ITS FALSE NEIGHBOUR: 'it returns false'. Refute it at one input. -/
def partLeastWrong : ChangeSpec := { name := "partLeast", fn := fun _ => fun
  | [d] => { results := [.lit (.bool false)], args := [d] }
  | _ => none }
def PartLeastWrongFalsely : Prop := partLeastRow.holds Try.pinned (OpenSpec.ofChange partLeastWrong)

/-- 'raftsmanlaw09.PartNone': WHATEVER THE INPUT: true; the input reads as it did. -/
def partNoneSpec : ChangeSpec := { name := "partNone", fn := fun _ => fun
  | [d] => { results := [.lit (.bool true)], args := [d] }
  | _ => none }
def partNoneRow : OpenClaim := { program := "ytkhgjffhelofdaa", sum := "1b64c3d75577c0dce94cfdf991556a0001b21b316e8861585de1d6f35604f761", func := "raftsman/raftsmanlaw09.PartNone", spec := "partNone", apart := false }
def PartNoneSaid : Prop := partNoneRow.holds Try.pinned (OpenSpec.ofChange partNoneSpec)

/-- ITS FALSE NEIGHBOUR: 'it returns false'. Refute it at one input. -/
def partNoneWrong : ChangeSpec := { name := "partNone", fn := fun _ => fun
  | [d] => { results := [.lit (.bool false)], args := [d] }
  | _ => none }
def PartNoneWrongFalsely : Prop := partNoneRow.holds Try.pinned (OpenSpec.ofChange partNoneWrong)

/- THE SECOND FORM. 'bulk': how many values and letters a reading holds, each counted each time it is reached (what is shared counts as often as it is met; a slice's spare places count too). A statement '..UptoSaid' is the law's where the arguments, and the package variables that the reading takes, are together of bulk at most 1048576: NARROWER than '..Said'. Prove '..Said' where nothing that the law and all that it calls make is longer than what came in: it says more and counts as full. Else prove '..UptoSaid'. A law counts once. -/
mutual
def uptoBulk {H : Type} : DataW H → Nat
  | .lit (.string bytes) => bytes.length + 1
  | .lit _ => 1
  | .nil => 1
  | .ptr d => uptoBulk d + 1
  | .slice elems spare => uptoBulkAll elems + uptoBulkAll spare + 1
  | .agg parts => uptoBulkAll parts + 1
  | .iface _ d => uptoBulk d + 1
  | .map entries => uptoBulkEntries entries + 1
  | .held _ => 1
def uptoBulkAll {H : Type} : List (DataW H) → Nat
  | [] => 0
  | d :: r => uptoBulk d + uptoBulkAll r
def uptoBulkEntries {H : Type} : List (Lit × DataW H) → Nat
  | [] => 0
  | x :: r => uptoBulkEntry x + uptoBulkEntries r
def uptoBulkEntry {H : Type} : Lit × DataW H → Nat
  | (.string bytes, d) => bytes.length + uptoBulk d + 1
  | (_, d) => uptoBulk d + 1
 end
def uptoSmall : (H : Type) → List (DataW H) → Bool := fun _ ds => decide (uptoBulkAll ds ≤ 1048576)
def OpenSpec.upto (s : _root_.Go.ChangeSpec) : _root_.Go.OpenSpec := { _root_.Go.OpenSpec.ofChange s with cond := some uptoSmall }

/-- 'raftsmanlaw09.PartOf', WHERE WHAT IT READS IS OF BULK AT MOST 1048576: true; the input reads as it did. -/
def partOfUptoRow : OpenClaim := { program := "ytkhgjffhelofdaa", sum := "1b64c3d75577c0dce94cfdf991556a0001b21b316e8861585de1d6f35604f761", func := "raftsman/raftsmanlaw09.PartOf", spec := "partOf", apart := false, narrowed := true }
def PartOfUptoSaid : Prop := partOfUptoRow.holds Try.pinned (OpenSpec.upto partOfSpec)

/-- 'raftsmanlaw09.PartMore', WHERE WHAT IT READS IS OF BULK AT MOST 1048576: true; the input reads as it did. -/
def partMoreUptoRow : OpenClaim := { program := "ytkhgjffhelofdaa", sum := "1b64c3d75577c0dce94cfdf991556a0001b21b316e8861585de1d6f35604f761", func := "raftsman/raftsmanlaw09.PartMore", spec := "partMore", apart := false, narrowed := true }
def PartMoreUptoSaid : Prop := partMoreUptoRow.holds Try.pinned (OpenSpec.upto partMoreSpec)

/-- 'raftsmanlaw09.PartSizes', WHERE WHAT IT READS IS OF BULK AT MOST 1048576: true; the input reads as it did. -/
def partSizesUptoRow : OpenClaim := { program := "ytkhgjffhelofdaa", sum := "1b64c3d75577c0dce94cfdf991556a0001b21b316e8861585de1d6f35604f761", func := "raftsman/raftsmanlaw09.PartSizes", spec := "partSizes", apart := false, narrowed := true }
def PartSizesUptoSaid : Prop := partSizesUptoRow.holds Try.pinned (OpenSpec.upto partSizesSpec)

/-- 'raftsmanlaw09.PartJoins', WHERE WHAT IT READS IS OF BULK AT MOST 1048576: true; the input reads as it did. -/
def partJoinsUptoRow : OpenClaim := { program := "ytkhgjffhelofdaa", sum := "1b64c3d75577c0dce94cfdf991556a0001b21b316e8861585de1d6f35604f761", func := "raftsman/raftsmanlaw09.PartJoins", spec := "partJoins", apart := false, narrowed := true }
def PartJoinsUptoSaid : Prop := partJoinsUptoRow.holds Try.pinned (OpenSpec.upto partJoinsSpec)

/-- 'raftsmanlaw09.PartLeast', WHERE WHAT IT READS IS OF BULK AT MOST 1048576: true; the input reads as it did. -/
def partLeastUptoRow : OpenClaim := { program := "ytkhgjffhelofdaa", sum := "1b64c3d75577c0dce94cfdf991556a0001b21b316e8861585de1d6f35604f761", func := "raftsman/raftsmanlaw09.PartLeast", spec := "partLeast", apart := false, narrowed := true }
def PartLeastUptoSaid : Prop := partLeastUptoRow.holds Try.pinned (OpenSpec.upto partLeastSpec)

/-- 'raftsmanlaw09.PartNone', WHERE WHAT IT READS IS OF BULK AT MOST 1048576: true; the input reads as it did. -/
def partNoneUptoRow : OpenClaim := { program := "ytkhgjffhelofdaa", sum := "1b64c3d75577c0dce94cfdf991556a0001b21b316e8861585de1d6f35604f761", func := "raftsman/raftsmanlaw09.PartNone", spec := "partNone", apart := false, narrowed := true }
def PartNoneUptoSaid : Prop := partNoneUptoRow.holds Try.pinned (OpenSpec.upto partNoneSpec)

end Rows
end Go.Proofs.Ytkhgjffhelofdaa
