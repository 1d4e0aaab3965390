/-
  No cell of these rows narrows 'for every input' (looked for: loops, veiled, ifaces, maps, wideKeys, modest, calm, conditions, laid).
  DERIVED. THE GIVEN ROWS OF THIS SEAT. 3 by the template 'for every input the law returns true; each argument reads behind the call as it read before'; 0 by the template 'total and deterministic' (their statements: YtleeomiocofgiaaTotals.lean).
  GIVEN WITH THE SEED: the statements are not yours to turn. If you find one false, say at which input.
  Laid BY PROGRAM, IN A SANDBOX (cutbox-rows.mjs): the forced cells as the released guide's own fill.sh prints them over the translation 7b946e145b66567e… (all of the seat's roots in one cut). By AI agents, Wed Nov 11 2026. No macro, syntax, notation, axiom, sorry.
-/
import Derived.Test.YtleeomiocofgiaaChecked
import GoSem.Claim
import GoSem.ClaimJoined
import GoSem.ClaimMapViews
import Derived.JoinedTies
import Derived.KernelRfl
namespace Go.Proofs.Ytleeomiocofgiaa
/- THE CELL 'sum', in the pinned program and in every row, IS THE sha256 OF THE DUMP (.gsa) THAT YtleeomiocofgiaaProg.lean LOADS. Nothing in Lean hashes anything: it is a label: what it is worth is what the hold of that sum in a sandbox is worth. -/
noncomputable def Try.pinned : Pinned := { name := "ytleeomiocofgiaa", sum := "7b946e145b66567e7418026dcedc89e8faec6a970072362a96fecd1e193c986b", checked := Try.checked }
namespace Rows
def none {H : Type} : Left H := { results := [], args := [] }

/-- 'raftsmanlaw06.SeqMany': WHATEVER THE INPUT: true; the input reads as it did. -/
def seqManySpec : ChangeSpec := { name := "seqMany", fn := fun _ => fun
  | [d1, d2, d3, d4] => { results := [.lit (.bool true)], args := [d1, d2, d3, d4] }
  | _ => none }
def seqManyRow : OpenClaim := { program := "ytleeomiocofgiaa", sum := "7b946e145b66567e7418026dcedc89e8faec6a970072362a96fecd1e193c986b", func := "raftsman/raftsmanlaw06.SeqMany", spec := "seqMany", recurses := true, apart := false }
def SeqManySaid : Prop := seqManyRow.holds Try.pinned (OpenSpec.ofChange seqManySpec)

/-- ITS FALSE NEIGHBOUR: 'it returns false'. Refute it at one input. -/
def seqManyWrong : ChangeSpec := { name := "seqMany", fn := fun _ => fun
  | [d1, d2, d3, d4] => { results := [.lit (.bool false)], args := [d1, d2, d3, d4] }
  | _ => none }
def SeqManyWrongFalsely : Prop := seqManyRow.holds Try.pinned (OpenSpec.ofChange seqManyWrong)

/-- 'raftsmanlaw06.SeqCuts': WHATEVER THE INPUT: true; the input reads as it did. -/
def seqCutsSpec : ChangeSpec := { name := "seqCuts", fn := fun _ => fun
  | [d1, d2, d3] => { results := [.lit (.bool true)], args := [d1, d2, d3] }
  | _ => none }
def seqCutsRow : OpenClaim := { program := "ytleeomiocofgiaa", sum := "7b946e145b66567e7418026dcedc89e8faec6a970072362a96fecd1e193c986b", func := "raftsman/raftsmanlaw06.SeqCuts", spec := "seqCuts", recurses := true, apart := false }
def SeqCutsSaid : Prop := seqCutsRow.holds Try.pinned (OpenSpec.ofChange seqCutsSpec)

/-- ITS FALSE NEIGHBOUR: 'it returns false'. Refute it at one input. -/
def seqCutsWrong : ChangeSpec := { name := "seqCuts", fn := fun _ => fun
  | [d1, d2, d3] => { results := [.lit (.bool false)], args := [d1, d2, d3] }
  | _ => none }
def SeqCutsWrongFalsely : Prop := seqCutsRow.holds Try.pinned (OpenSpec.ofChange seqCutsWrong)

/-- 'raftsmanlaw06.SeqLong': WHATEVER THE INPUT: true; the input reads as it did. -/
def seqLongSpec : ChangeSpec := { name := "seqLong", fn := fun _ => fun
  | [d1, d2] => { results := [.lit (.bool true)], args := [d1, d2] }
  | _ => none }
def seqLongRow : OpenClaim := { program := "ytleeomiocofgiaa", sum := "7b946e145b66567e7418026dcedc89e8faec6a970072362a96fecd1e193c986b", func := "raftsman/raftsmanlaw06.SeqLong", spec := "seqLong", recurses := true, apart := false }
def SeqLongSaid : Prop := seqLongRow.holds Try.pinned (OpenSpec.ofChange seqLongSpec)

/-- ITS FALSE NEIGHBOUR: 'it returns false'. Refute it at one input. -/
def seqLongWrong : ChangeSpec := { name := "seqLong", fn := fun _ => fun
  | [d1, d2] => { results := [.lit (.bool false)], args := [d1, d2] }
  | _ => none }
def SeqLongWrongFalsely : Prop := seqLongRow.holds Try.pinned (OpenSpec.ofChange seqLongWrong)

/- THE SECOND FORM. 'bulk': how many values and letters a reading holds, each counted each time it is reached (what is shared counts as often as it is met; a slice's spare places count too). A statement '..UptoSaid' is the law's where the arguments, and the package variables that the reading takes, are together of bulk at most 1048576: NARROWER than '..Said'. Prove '..Said' where nothing that the law and all that it calls make is longer than what came in: it says more and counts as full. Else prove '..UptoSaid'. A law counts once. -/
mutual
def uptoBulk {H : Type} : DataW H → Nat
  | .lit (.string bytes) => bytes.length + 1
  | .lit _ => 1
  | .nil => 1
  | .ptr d => uptoBulk d + 1
  | .slice elems spare => uptoBulkAll elems + uptoBulkAll spare + 1
  | .agg parts => uptoBulkAll parts + 1
  | .iface _ d => uptoBulk d + 1
  | .map entries => uptoBulkEntries entries + 1
  | .held _ => 1
def uptoBulkAll {H : Type} : List (DataW H) → Nat
  | [] => 0
  | d :: r => uptoBulk d + uptoBulkAll r
def uptoBulkEntries {H : Type} : List (Lit × DataW H) → Nat
  | [] => 0
  | x :: r => uptoBulkEntry x + uptoBulkEntries r
def uptoBulkEntry {H : Type} : Lit × DataW H → Nat
  | (.string bytes, d) => bytes.length + uptoBulk d + 1
  | (_, d) => uptoBulk d + 1
 end
def uptoSmall : (H : Type) → List (DataW H) → Bool := fun _ ds => decide (uptoBulkAll ds ≤ 1048576)
def OpenSpec.upto (s : _root_.Go.ChangeSpec) : _root_.Go.OpenSpec := { _root_.Go.OpenSpec.ofChange s with cond := some uptoSmall }

/-- 'raftsmanlaw06.SeqMany', WHERE WHAT IT READS IS OF BULK AT MOST 1048576: true; the input reads as it did. -/
def seqManyUptoRow : OpenClaim := { program := "ytleeomiocofgiaa", sum := "7b946e145b66567e7418026dcedc89e8faec6a970072362a96fecd1e193c986b", func := "raftsman/raftsmanlaw06.SeqMany", spec := "seqMany", recurses := true, apart := false, narrowed := true }
def SeqManyUptoSaid : Prop := seqManyUptoRow.holds Try.pinned (OpenSpec.upto seqManySpec)

/-- 'raftsmanlaw06.SeqCuts', WHERE WHAT IT READS IS OF BULK AT MOST 1048576: true; the input reads as it did. -/
def seqCutsUptoRow : OpenClaim := { program := "ytleeomiocofgiaa", sum := "7b946e145b66567e7418026dcedc89e8faec6a970072362a96fecd1e193c986b", func := "raftsman/raftsmanlaw06.SeqCuts", spec := "seqCuts", recurses := true, apart := false, narrowed := true }
def SeqCutsUptoSaid : Prop := seqCutsUptoRow.holds Try.pinned (OpenSpec.upto seqCutsSpec)

/-- 'raftsmanlaw06.SeqLong', WHERE WHAT IT READS IS OF BULK AT MOST 1048576: true; the input reads as it did. -/
def seqLongUptoRow : OpenClaim := { program := "ytleeomiocofgiaa", sum := "7b946e145b66567e7418026dcedc89e8faec6a970072362a96fecd1e193c986b", func := "raftsman/raftsmanlaw06.SeqLong", spec := "seqLong", recurses := true, apart := false, narrowed := true }
def SeqLongUptoSaid : Prop := seqLongUptoRow.holds Try.pinned (OpenSpec.upto seqLongSpec)

end Rows
end Go.Proofs.Ytleeomiocofgiaa
