/-
  No cell of these rows narrows 'for every input' (looked for: loops, veiled, ifaces, maps, wideKeys, modest, calm, conditions, laid).
  DERIVED. THE GIVEN ROWS OF THIS SEAT. 6 by the template 'for every input the law returns true; each argument reads behind the call as it read before'; 0 by the template 'total and deterministic' (their statements: YtcbedngimgkcoaaTotals.lean).
  GIVEN WITH THE SEED: the statements are not yours to turn. If you find one false, say at which input.
  Laid BY PROGRAM, IN A SANDBOX (cutbox-rows.mjs): the forced cells as the released guide's own fill.sh prints them over the translation 37b5a116d3004d08… (all of the seat's roots in one cut). By AI agents, Wed Nov 11 2026. No macro, syntax, notation, axiom, sorry.
-/
import Derived.Test.YtcbedngimgkcoaaChecked
import GoSem.Claim
import GoSem.ClaimJoined
import GoSem.ClaimMapViews
import Derived.JoinedTies
import Derived.KernelRfl
namespace Go.Proofs.Ytcbedngimgkcoaa
/- THE CELL 'sum', in the pinned program and in every row, IS THE sha256 OF THE DUMP (.gsa) THAT YtcbedngimgkcoaaProg.lean LOADS. Nothing in Lean hashes anything: it is a label: what it is worth is what the hold of that sum in a sandbox is worth. -/
noncomputable def Try.pinned : Pinned := { name := "ytcbedngimgkcoaa", sum := "37b5a116d3004d08b68ac312008d6971dd56f9cb9a1458234820686366e48da6", checked := Try.checked }
namespace Rows
def none {H : Type} : Left H := { results := [], args := [] }

/-- 'raftsmanlaw11.VertsTells': WHATEVER THE INPUT: true; the input reads as it did. -/
def vertsTellsSpec : ChangeSpec := { name := "vertsTells", fn := fun _ => fun
  | [d1, d2] => { results := [.lit (.bool true)], args := [d1, d2] }
  | _ => none }
def vertsTellsRow : OpenClaim := { program := "ytcbedngimgkcoaa", sum := "37b5a116d3004d08b68ac312008d6971dd56f9cb9a1458234820686366e48da6", func := "raftsman/raftsmanlaw11.VertsTells", spec := "vertsTells", unfollowed := true, recurses := true, apart := false }
def VertsTellsSaid : Prop := vertsTellsRow.holds Try.pinned (OpenSpec.ofChange vertsTellsSpec)

/-- ITS FALSE NEIGHBOUR: 'it returns false'. Refute it at one input. -/
def vertsTellsWrong : ChangeSpec := { name := "vertsTells", fn := fun _ => fun
  | [d1, d2] => { results := [.lit (.bool false)], args := [d1, d2] }
  | _ => none }
def VertsTellsWrongFalsely : Prop := vertsTellsRow.holds Try.pinned (OpenSpec.ofChange vertsTellsWrong)

/-- 'raftsmanlaw11.VertsKeeps': WHATEVER THE INPUT: true; the input reads as it did. -/
def vertsKeepsSpec : ChangeSpec := { name := "vertsKeeps", fn := fun _ => fun
  | [d1, d2] => { results := [.lit (.bool true)], args := [d1, d2] }
  | _ => none }
def vertsKeepsRow : OpenClaim := { program := "ytcbedngimgkcoaa", sum := "37b5a116d3004d08b68ac312008d6971dd56f9cb9a1458234820686366e48da6", func := "raftsman/raftsmanlaw11.VertsKeeps", spec := "vertsKeeps", unfollowed := true, recurses := true, apart := false }
def VertsKeepsSaid : Prop := vertsKeepsRow.holds Try.pinned (OpenSpec.ofChange vertsKeepsSpec)

/-- ITS FALSE NEIGHBOUR: 'it returns false'. Refute it at one input. -/
def vertsKeepsWrong : ChangeSpec := { name := "vertsKeeps", fn := fun _ => fun
  | [d1, d2] => { results := [.lit (.bool false)], args := [d1, d2] }
  | _ => none }
def VertsKeepsWrongFalsely : Prop := vertsKeepsRow.holds Try.pinned (OpenSpec.ofChange vertsKeepsWrong)

/-- 'raftsmanlaw11.VertsNew': WHATEVER THE INPUT: true; the input reads as it did. -/
def vertsNewSpec : ChangeSpec := { name := "vertsNew", fn := fun _ => fun
  | [d1, d2] => { results := [.lit (.bool true)], args := [d1, d2] }
  | _ => none }
def vertsNewRow : OpenClaim := { program := "ytcbedngimgkcoaa", sum := "37b5a116d3004d08b68ac312008d6971dd56f9cb9a1458234820686366e48da6", func := "raftsman/raftsmanlaw11.VertsNew", spec := "vertsNew", unfollowed := true, recurses := true, apart := false }
def VertsNewSaid : Prop := vertsNewRow.holds Try.pinned (OpenSpec.ofChange vertsNewSpec)

/-- ITS FALSE NEIGHBOUR: 'it returns false'. Refute it at one input. -/
def vertsNewWrong : ChangeSpec := { name := "vertsNew", fn := fun _ => fun
  | [d1, d2] => { results := [.lit (.bool false)], args := [d1, d2] }
  | _ => none }
def VertsNewWrongFalsely : Prop := vertsNewRow.holds Try.pinned (OpenSpec.ofChange vertsNewWrong)

/-- 'raftsmanlaw11.VertsBack': WHATEVER THE INPUT: true; the input reads as it did. -/
def vertsBackSpec : ChangeSpec := { name := "vertsBack", fn := fun _ => fun
  | [d1, d2] => { results := [.lit (.bool true)], args := [d1, d2] }
  | _ => none }
def vertsBackRow : OpenClaim := { program := "ytcbedngimgkcoaa", sum := "37b5a116d3004d08b68ac312008d6971dd56f9cb9a1458234820686366e48da6", func := "raftsman/raftsmanlaw11.VertsBack", spec := "vertsBack", unfollowed := true, recurses := true, apart := false }
def VertsBackSaid : Prop := vertsBackRow.holds Try.pinned (OpenSpec.ofChange vertsBackSpec)

/-- ITS FALSE NEIGHBOUR: 'it returns false'. Refute it at one input. -/
def vertsBackWrong : ChangeSpec := { name := "vertsBack", fn := fun _ => fun
  | [d1, d2] => { results := [.lit (.bool false)], args := [d1, d2] }
  | _ => none }
def VertsBackWrongFalsely : Prop := vertsBackRow.holds Try.pinned (OpenSpec.ofChange vertsBackWrong)

/-- 'raftsmanlaw11.VertsKeys': WHATEVER THE INPUT: true; the input reads as it did. -/
def vertsKeysSpec : ChangeSpec := { name := "vertsKeys", fn := fun _ => fun
  | [d1, d2] => { results := [.lit (.bool true)], args := [d1, d2] }
  | _ => none }
def vertsKeysRow : OpenClaim := { program := "ytcbedngimgkcoaa", sum := "37b5a116d3004d08b68ac312008d6971dd56f9cb9a1458234820686366e48da6", func := "raftsman/raftsmanlaw11.VertsKeys", spec := "vertsKeys", unfollowed := true, recurses := true, apart := false }
def VertsKeysSaid : Prop := vertsKeysRow.holds Try.pinned (OpenSpec.ofChange vertsKeysSpec)

/-- ITS FALSE NEIGHBOUR: 'it returns false'. Refute it at one input. -/
def vertsKeysWrong : ChangeSpec := { name := "vertsKeys", fn := fun _ => fun
  | [d1, d2] => { results := [.lit (.bool false)], args := [d1, d2] }
  | _ => none }
def VertsKeysWrongFalsely : Prop := vertsKeysRow.holds Try.pinned (OpenSpec.ofChange vertsKeysWrong)

/-- 'raftsmanlaw11.VertsFull': WHATEVER THE INPUT: true; the input reads as it did. -/
def vertsFullSpec : ChangeSpec := { name := "vertsFull", fn := fun _ => fun
  | [d1, d2] => { results := [.lit (.bool true)], args := [d1, d2] }
  | _ => none }
def vertsFullRow : OpenClaim := { program := "ytcbedngimgkcoaa", sum := "37b5a116d3004d08b68ac312008d6971dd56f9cb9a1458234820686366e48da6", func := "raftsman/raftsmanlaw11.VertsFull", spec := "vertsFull", unfollowed := true, recurses := true, apart := false }
def VertsFullSaid : Prop := vertsFullRow.holds Try.pinned (OpenSpec.ofChange vertsFullSpec)

/-- ITS FALSE NEIGHBOUR: 'it returns false'. Refute it at one input. -/
def vertsFullWrong : ChangeSpec := { name := "vertsFull", fn := fun _ => fun
  | [d1, d2] => { results := [.lit (.bool false)], args := [d1, d2] }
  | _ => none }
def VertsFullWrongFalsely : Prop := vertsFullRow.holds Try.pinned (OpenSpec.ofChange vertsFullWrong)

/- THE SECOND FORM. 'bulk': how many values and letters a reading holds, each counted each time it is reached (what is shared counts as often as it is met; a slice's spare places count too). A statement '..UptoSaid' is the law's where the arguments, and the package variables that the reading takes, are together of bulk at most 1048576: NARROWER than '..Said'. Prove '..Said' where nothing that the law and all that it calls make is longer than what came in: it says more and counts as full. Else prove '..UptoSaid'. A law counts once. -/
mutual
def uptoBulk {H : Type} : DataW H → Nat
  | .lit (.string bytes) => bytes.length + 1
  | .lit _ => 1
  | .nil => 1
  | .ptr d => uptoBulk d + 1
  | .slice elems spare => uptoBulkAll elems + uptoBulkAll spare + 1
  | .agg parts => uptoBulkAll parts + 1
  | .iface _ d => uptoBulk d + 1
  | .map entries => uptoBulkEntries entries + 1
  | .held _ => 1
def uptoBulkAll {H : Type} : List (DataW H) → Nat
  | [] => 0
  | d :: r => uptoBulk d + uptoBulkAll r
def uptoBulkEntries {H : Type} : List (Lit × DataW H) → Nat
  | [] => 0
  | x :: r => uptoBulkEntry x + uptoBulkEntries r
def uptoBulkEntry {H : Type} : Lit × DataW H → Nat
  | (.string bytes, d) => bytes.length + uptoBulk d + 1
  | (_, d) => uptoBulk d + 1
 end
def uptoSmall : (H : Type) → List (DataW H) → Bool := fun _ ds => decide (uptoBulkAll ds ≤ 1048576)
def OpenSpec.upto (s : _root_.Go.ChangeSpec) : _root_.Go.OpenSpec := { _root_.Go.OpenSpec.ofChange s with cond := some uptoSmall }

/-- 'raftsmanlaw11.VertsTells', WHERE WHAT IT READS IS OF BULK AT MOST 1048576: true; the input reads as it did. -/
def vertsTellsUptoRow : OpenClaim := { program := "ytcbedngimgkcoaa", sum := "37b5a116d3004d08b68ac312008d6971dd56f9cb9a1458234820686366e48da6", func := "raftsman/raftsmanlaw11.VertsTells", spec := "vertsTells", unfollowed := true, recurses := true, apart := false, narrowed := true }
def VertsTellsUptoSaid : Prop := vertsTellsUptoRow.holds Try.pinned (OpenSpec.upto vertsTellsSpec)

/-- 'raftsmanlaw11.VertsKeeps', WHERE WHAT IT READS IS OF BULK AT MOST 1048576: true; the input reads as it did. -/
def vertsKeepsUptoRow : OpenClaim := { program := "ytcbedngimgkcoaa", sum := "37b5a116d3004d08b68ac312008d6971dd56f9cb9a1458234820686366e48da6", func := "raftsman/raftsmanlaw11.VertsKeeps", spec := "vertsKeeps", unfollowed := true, recurses := true, apart := false, narrowed := true }
def VertsKeepsUptoSaid : Prop := vertsKeepsUptoRow.holds Try.pinned (OpenSpec.upto vertsKeepsSpec)

/-- 'raftsmanlaw11.VertsNew', WHERE WHAT IT READS IS OF BULK AT MOST 1048576: true; the input reads as it did. -/
def vertsNewUptoRow : OpenClaim := { program := "ytcbedngimgkcoaa", sum := "37b5a116d3004d08b68ac312008d6971dd56f9cb9a1458234820686366e48da6", func := "raftsman/raftsmanlaw11.VertsNew", spec := "vertsNew", unfollowed := true, recurses := true, apart := false, narrowed := true }
def VertsNewUptoSaid : Prop := vertsNewUptoRow.holds Try.pinned (OpenSpec.upto vertsNewSpec)

/-- 'raftsmanlaw11.VertsBack', WHERE WHAT IT READS IS OF BULK AT MOST 1048576: true; the input reads as it did. -/
def vertsBackUptoRow : OpenClaim := { program := "ytcbedngimgkcoaa", sum := "37b5a116d3004d08b68ac312008d6971dd56f9cb9a1458234820686366e48da6", func := "raftsman/raftsmanlaw11.VertsBack", spec := "vertsBack", unfollowed := true, recurses := true, apart := false, narrowed := true }
def VertsBackUptoSaid : Prop := vertsBackUptoRow.holds Try.pinned (OpenSpec.upto vertsBackSpec)

/-- 'raftsmanlaw11.VertsKeys', WHERE WHAT IT READS IS OF BULK AT MOST 1048576: true; the input reads as it did. -/
def vertsKeysUptoRow : OpenClaim := { program := "ytcbedngimgkcoaa", sum := "37b5a116d3004d08b68ac312008d6971dd56f9cb9a1458234820686366e48da6", func := "raftsman/raftsmanlaw11.VertsKeys", spec := "vertsKeys", unfollowed := true, recurses := true, apart := false, narrowed := true }
def VertsKeysUptoSaid : Prop := vertsKeysUptoRow.holds Try.pinned (OpenSpec.upto vertsKeysSpec)

/-- 'raftsmanlaw11.VertsFull', WHERE WHAT IT READS IS OF BULK AT MOST 1048576: true; the input reads as it did. -/
def vertsFullUptoRow : OpenClaim := { program := "ytcbedngimgkcoaa", sum := "37b5a116d3004d08b68ac312008d6971dd56f9cb9a1458234820686366e48da6", func := "raftsman/raftsmanlaw11.VertsFull", spec := "vertsFull", unfollowed := true, recurses := true, apart := false, narrowed := true }
def VertsFullUptoSaid : Prop := vertsFullUptoRow.holds Try.pinned (OpenSpec.upto vertsFullSpec)

end Rows
end Go.Proofs.Ytcbedngimgkcoaa
