/-
  No cell of these rows narrows 'for every input' (looked for: loops, veiled, ifaces, maps, wideKeys, modest, calm, conditions, laid).
  DERIVED. THE GIVEN ROWS OF THIS SEAT. 6 by the template 'for every input the law returns true; each argument reads behind the call as it read before'; 0 by the template 'total and deterministic' (their statements: YtbdgblaiglkleaaTotals.lean).
  GIVEN WITH THE SEED: the statements are not yours to turn. If you find one false, say at which input.
  Laid BY PROGRAM, IN A SANDBOX (cutbox-rows.mjs): the forced cells as the released guide's own fill.sh prints them over the translation 541b819baac25e0c… (all of the seat's roots in one cut). By AI agents, Wed Nov 11 2026. No macro, syntax, notation, axiom, sorry.
-/
import Derived.Test.YtbdgblaiglkleaaChecked
import GoSem.Claim
import GoSem.ClaimJoined
import GoSem.ClaimMapViews
import Derived.JoinedTies
import Derived.KernelRfl
namespace Go.Proofs.Ytbdgblaiglkleaa
/- THE CELL 'sum', in the pinned program and in every row, IS THE sha256 OF THE DUMP (.gsa) THAT YtbdgblaiglkleaaProg.lean LOADS. Nothing in Lean hashes anything: it is a label: what it is worth is what the hold of that sum in a sandbox is worth. -/
noncomputable def Try.pinned : Pinned := { name := "ytbdgblaiglkleaa", sum := "541b819baac25e0cc24fa2508253bd81ed0d18e8fb8a7ad289d1f9cc9a1e05ea", checked := Try.checked }
namespace Rows
def none {H : Type} : Left H := { results := [], args := [] }

/-- 'raftsmanlaw01.ModExponents': WHATEVER THE INPUT: true; the input reads as it did. -/
def modExponentsSpec : ChangeSpec := { name := "modExponents", fn := fun _ => fun
  | [d1, d2, d3] => { results := [.lit (.bool true)], args := [d1, d2, d3] }
  | _ => none }
def modExponentsRow : OpenClaim := { program := "ytbdgblaiglkleaa", sum := "541b819baac25e0cc24fa2508253bd81ed0d18e8fb8a7ad289d1f9cc9a1e05ea", func := "raftsman/raftsmanlaw01.ModExponents", spec := "modExponents", named := ["math/bits.divideError", "math/bits.overflowError"], apart := false }
def ModExponentsSaid : Prop := modExponentsRow.holds Try.pinned (OpenSpec.ofChange modExponentsSpec)

/-- ITS FALSE NEIGHBOUR: 'it returns false'. Refute it at one input. -/
def modExponentsWrong : ChangeSpec := { name := "modExponents", fn := fun _ => fun
  | [d1, d2, d3] => { results := [.lit (.bool false)], args := [d1, d2, d3] }
  | _ => none }
def ModExponentsWrongFalsely : Prop := modExponentsRow.holds Try.pinned (OpenSpec.ofChange modExponentsWrong)

/-- 'raftsmanlaw01.ModTells': WHATEVER THE INPUT: true; the input reads as it did. -/
def modTellsSpec : ChangeSpec := { name := "modTells", fn := fun _ => fun
  | [d1, d2] => { results := [.lit (.bool true)], args := [d1, d2] }
  | _ => none }
def modTellsRow : OpenClaim := { program := "ytbdgblaiglkleaa", sum := "541b819baac25e0cc24fa2508253bd81ed0d18e8fb8a7ad289d1f9cc9a1e05ea", func := "raftsman/raftsmanlaw01.ModTells", spec := "modTells", named := ["math/bits.divideError", "math/bits.overflowError"], apart := false }
def ModTellsSaid : Prop := modTellsRow.holds Try.pinned (OpenSpec.ofChange modTellsSpec)

/-- ITS FALSE NEIGHBOUR: 'it returns false'. Refute it at one input. -/
def modTellsWrong : ChangeSpec := { name := "modTells", fn := fun _ => fun
  | [d1, d2] => { results := [.lit (.bool false)], args := [d1, d2] }
  | _ => none }
def ModTellsWrongFalsely : Prop := modTellsRow.holds Try.pinned (OpenSpec.ofChange modTellsWrong)

/-- 'raftsmanlaw01.ModLaws': WHATEVER THE INPUT: true; the input reads as it did. -/
def modLawsSpec : ChangeSpec := { name := "modLaws", fn := fun _ => fun
  | [d1, d2, d3] => { results := [.lit (.bool true)], args := [d1, d2, d3] }
  | _ => none }
def modLawsRow : OpenClaim := { program := "ytbdgblaiglkleaa", sum := "541b819baac25e0cc24fa2508253bd81ed0d18e8fb8a7ad289d1f9cc9a1e05ea", func := "raftsman/raftsmanlaw01.ModLaws", spec := "modLaws", named := ["math/bits.divideError", "math/bits.overflowError"], apart := false }
def ModLawsSaid : Prop := modLawsRow.holds Try.pinned (OpenSpec.ofChange modLawsSpec)

/-- ITS FALSE NEIGHBOUR: 'it returns false'. Refute it at one input. -/
def modLawsWrong : ChangeSpec := { name := "modLaws", fn := fun _ => fun
  | [d1, d2, d3] => { results := [.lit (.bool false)], args := [d1, d2, d3] }
  | _ => none }
def ModLawsWrongFalsely : Prop := modLawsRow.holds Try.pinned (OpenSpec.ofChange modLawsWrong)

/-- 'raftsmanlaw01.ModBack': WHATEVER THE INPUT: true; the input reads as it did. -/
def modBackSpec : ChangeSpec := { name := "modBack", fn := fun _ => fun
  | [d1, d2] => { results := [.lit (.bool true)], args := [d1, d2] }
  | _ => none }
def modBackRow : OpenClaim := { program := "ytbdgblaiglkleaa", sum := "541b819baac25e0cc24fa2508253bd81ed0d18e8fb8a7ad289d1f9cc9a1e05ea", func := "raftsman/raftsmanlaw01.ModBack", spec := "modBack", named := ["math/bits.divideError", "math/bits.overflowError"], apart := false }
def ModBackSaid : Prop := modBackRow.holds Try.pinned (OpenSpec.ofChange modBackSpec)

/-- ITS FALSE NEIGHBOUR: 'it returns false'. Refute it at one input. -/
def modBackWrong : ChangeSpec := { name := "modBack", fn := fun _ => fun
  | [d1, d2] => { results := [.lit (.bool false)], args := [d1, d2] }
  | _ => none }
def ModBackWrongFalsely : Prop := modBackRow.holds Try.pinned (OpenSpec.ofChange modBackWrong)

/-- 'raftsmanlaw01.ModRange': WHATEVER THE INPUT: true; the input reads as it did. -/
def modRangeSpec : ChangeSpec := { name := "modRange", fn := fun _ => fun
  | [d1, d2] => { results := [.lit (.bool true)], args := [d1, d2] }
  | _ => none }
def modRangeRow : OpenClaim := { program := "ytbdgblaiglkleaa", sum := "541b819baac25e0cc24fa2508253bd81ed0d18e8fb8a7ad289d1f9cc9a1e05ea", func := "raftsman/raftsmanlaw01.ModRange", spec := "modRange", named := ["math/bits.divideError", "math/bits.overflowError"], apart := false }
def ModRangeSaid : Prop := modRangeRow.holds Try.pinned (OpenSpec.ofChange modRangeSpec)

/-- ITS FALSE NEIGHBOUR: 'it returns false'. Refute it at one input. -/
def modRangeWrong : ChangeSpec := { name := "modRange", fn := fun _ => fun
  | [d1, d2] => { results := [.lit (.bool false)], args := [d1, d2] }
  | _ => none }
def ModRangeWrongFalsely : Prop := modRangeRow.holds Try.pinned (OpenSpec.ofChange modRangeWrong)

/-- 'raftsmanlaw01.ModTwice': WHATEVER THE INPUT: true; the input reads as it did. -/
def modTwiceSpec : ChangeSpec := { name := "modTwice", fn := fun _ => fun
  | [d] => { results := [.lit (.bool true)], args := [d] }
  | _ => none }
def modTwiceRow : OpenClaim := { program := "ytbdgblaiglkleaa", sum := "541b819baac25e0cc24fa2508253bd81ed0d18e8fb8a7ad289d1f9cc9a1e05ea", func := "raftsman/raftsmanlaw01.ModTwice", spec := "modTwice", named := ["math/bits.divideError", "math/bits.overflowError"], apart := false }
def ModTwiceSaid : Prop := modTwiceRow.holds Try.pinned (OpenSpec.ofChange modTwiceSpec)

/-- ITS FALSE NEIGHBOUR: 'it returns false'. Refute it at one input. -/
def modTwiceWrong : ChangeSpec := { name := "modTwice", fn := fun _ => fun
  | [d] => { results := [.lit (.bool false)], args := [d] }
  | _ => none }
def ModTwiceWrongFalsely : Prop := modTwiceRow.holds Try.pinned (OpenSpec.ofChange modTwiceWrong)

/- THE SECOND FORM. 'bulk': how many values and letters a reading holds, each counted each time it is reached (what is shared counts as often as it is met; a slice's spare places count too). A statement '..UptoSaid' is the law's where the arguments, and the package variables that the reading takes, are together of bulk at most 1048576: NARROWER than '..Said'. Prove '..Said' where nothing that the law and all that it calls make is longer than what came in: it says more and counts as full. Else prove '..UptoSaid'. A law counts once. -/
mutual
def uptoBulk {H : Type} : DataW H → Nat
  | .lit (.string bytes) => bytes.length + 1
  | .lit _ => 1
  | .nil => 1
  | .ptr d => uptoBulk d + 1
  | .slice elems spare => uptoBulkAll elems + uptoBulkAll spare + 1
  | .agg parts => uptoBulkAll parts + 1
  | .iface _ d => uptoBulk d + 1
  | .map entries => uptoBulkEntries entries + 1
  | .held _ => 1
def uptoBulkAll {H : Type} : List (DataW H) → Nat
  | [] => 0
  | d :: r => uptoBulk d + uptoBulkAll r
def uptoBulkEntries {H : Type} : List (Lit × DataW H) → Nat
  | [] => 0
  | x :: r => uptoBulkEntry x + uptoBulkEntries r
def uptoBulkEntry {H : Type} : Lit × DataW H → Nat
  | (.string bytes, d) => bytes.length + uptoBulk d + 1
  | (_, d) => uptoBulk d + 1
 end
def uptoSmall : (H : Type) → List (DataW H) → Bool := fun _ ds => decide (uptoBulkAll ds ≤ 1048576)
def OpenSpec.upto (s : _root_.Go.ChangeSpec) : _root_.Go.OpenSpec := { _root_.Go.OpenSpec.ofChange s with cond := some uptoSmall }

/-- 'raftsmanlaw01.ModExponents', WHERE WHAT IT READS IS OF BULK AT MOST 1048576: true; the input reads as it did. -/
def modExponentsUptoRow : OpenClaim := { program := "ytbdgblaiglkleaa", sum := "541b819baac25e0cc24fa2508253bd81ed0d18e8fb8a7ad289d1f9cc9a1e05ea", func := "raftsman/raftsmanlaw01.ModExponents", spec := "modExponents", named := ["math/bits.divideError", "math/bits.overflowError"], apart := false, narrowed := true }
def ModExponentsUptoSaid : Prop := modExponentsUptoRow.holds Try.pinned (OpenSpec.upto modExponentsSpec)

/-- 'raftsmanlaw01.ModTells', WHERE WHAT IT READS IS OF BULK AT MOST 1048576: true; the input reads as it did. -/
def modTellsUptoRow : OpenClaim := { program := "ytbdgblaiglkleaa", sum := "541b819baac25e0cc24fa2508253bd81ed0d18e8fb8a7ad289d1f9cc9a1e05ea", func := "raftsman/raftsmanlaw01.ModTells", spec := "modTells", named := ["math/bits.divideError", "math/bits.overflowError"], apart := false, narrowed := true }
def ModTellsUptoSaid : Prop := modTellsUptoRow.holds Try.pinned (OpenSpec.upto modTellsSpec)

/-- 'raftsmanlaw01.ModLaws', WHERE WHAT IT READS IS OF BULK AT MOST 1048576: true; the input reads as it did. -/
def modLawsUptoRow : OpenClaim := { program := "ytbdgblaiglkleaa", sum := "541b819baac25e0cc24fa2508253bd81ed0d18e8fb8a7ad289d1f9cc9a1e05ea", func := "raftsman/raftsmanlaw01.ModLaws", spec := "modLaws", named := ["math/bits.divideError", "math/bits.overflowError"], apart := false, narrowed := true }
def ModLawsUptoSaid : Prop := modLawsUptoRow.holds Try.pinned (OpenSpec.upto modLawsSpec)

/-- 'raftsmanlaw01.ModBack', WHERE WHAT IT READS IS OF BULK AT MOST 1048576: true; the input reads as it did. -/
def modBackUptoRow : OpenClaim := { program := "ytbdgblaiglkleaa", sum := "541b819baac25e0cc24fa2508253bd81ed0d18e8fb8a7ad289d1f9cc9a1e05ea", func := "raftsman/raftsmanlaw01.ModBack", spec := "modBack", named := ["math/bits.divideError", "math/bits.overflowError"], apart := false, narrowed := true }
def ModBackUptoSaid : Prop := modBackUptoRow.holds Try.pinned (OpenSpec.upto modBackSpec)

/-- 'raftsmanlaw01.ModRange', WHERE WHAT IT READS IS OF BULK AT MOST 1048576: true; the input reads as it did. -/
def modRangeUptoRow : OpenClaim := { program := "ytbdgblaiglkleaa", sum := "541b819baac25e0cc24fa2508253bd81ed0d18e8fb8a7ad289d1f9cc9a1e05ea", func := "raftsman/raftsmanlaw01.ModRange", spec := "modRange", named := ["math/bits.divideError", "math/bits.overflowError"], apart := false, narrowed := true }
def ModRangeUptoSaid : Prop := modRangeUptoRow.holds Try.pinned (OpenSpec.upto modRangeSpec)

/-- 'raftsmanlaw01.ModTwice', WHERE WHAT IT READS IS OF BULK AT MOST 1048576: true; the input reads as it did. -/
def modTwiceUptoRow : OpenClaim := { program := "ytbdgblaiglkleaa", sum := "541b819baac25e0cc24fa2508253bd81ed0d18e8fb8a7ad289d1f9cc9a1e05ea", func := "raftsman/raftsmanlaw01.ModTwice", spec := "modTwice", named := ["math/bits.divideError", "math/bits.overflowError"], apart := false, narrowed := true }
def ModTwiceUptoSaid : Prop := modTwiceUptoRow.holds Try.pinned (OpenSpec.upto modTwiceSpec)

end Rows
end Go.Proofs.Ytbdgblaiglkleaa
