/-
  No cell of these rows narrows 'for every input' (looked for: loops, veiled, ifaces, maps, wideKeys, modest, calm, conditions, laid).
  DERIVED. THE GIVEN ROWS OF THIS SEAT. 5 by the template 'for every input the law returns true; each argument reads behind the call as it read before'; 0 by the template 'total and deterministic' (their statements: YtkkhghipbnpiaaaTotals.lean).
  GIVEN WITH THE SEED: the statements are not yours to turn. If you find one false, say at which input.
  Laid BY PROGRAM, IN A SANDBOX (cutbox-rows.mjs): the forced cells as the released guide's own fill.sh prints them over the translation 0e7efea7c3c0bc21… (all of the seat's roots in one cut). By AI agents, Wed Nov 11 2026. No macro, syntax, notation, axiom, sorry.
-/
import Derived.Test.YtkkhghipbnpiaaaChecked
import GoSem.Claim
import GoSem.ClaimJoined
import GoSem.ClaimMapViews
import Derived.JoinedTies
import Derived.KernelRfl
namespace Go.Proofs.Ytkkhghipbnpiaaa
/- THE CELL 'sum', in the pinned program and in every row, IS THE sha256 OF THE DUMP (.gsa) THAT YtkkhghipbnpiaaaProg.lean LOADS. Nothing in Lean hashes anything: it is a label: what it is worth is what the hold of that sum in a sandbox is worth. -/
noncomputable def Try.pinned : Pinned := { name := "ytkkhghipbnpiaaa", sum := "0e7efea7c3c0bc2155313eceff3a934f2ec83abbbf779d3acb7c4182411101a8", checked := Try.checked }
namespace Rows
def none {H : Type} : Left H := { results := [], args := [] }

/-- 'raftsmanlaw07.DictTells': WHATEVER THE INPUT: true; the input reads as it did. -/
def dictTellsSpec : ChangeSpec := { name := "dictTells", fn := fun _ => fun
  | [d1, d2] => { results := [.lit (.bool true)], args := [d1, d2] }
  | _ => none }
def dictTellsRow : OpenClaim := { program := "ytkkhghipbnpiaaa", sum := "0e7efea7c3c0bc2155313eceff3a934f2ec83abbbf779d3acb7c4182411101a8", func := "raftsman/raftsmanlaw07.DictTells", spec := "dictTells", unfollowed := true, recurses := true, apart := false }
def DictTellsSaid : Prop := dictTellsRow.holds Try.pinned (OpenSpec.ofChange dictTellsSpec)

/-- ITS FALSE NEIGHBOUR: 'it returns false'. Refute it at one input. -/
def dictTellsWrong : ChangeSpec := { name := "dictTells", fn := fun _ => fun
  | [d1, d2] => { results := [.lit (.bool false)], args := [d1, d2] }
  | _ => none }
def DictTellsWrongFalsely : Prop := dictTellsRow.holds Try.pinned (OpenSpec.ofChange dictTellsWrong)

/-- 'raftsmanlaw07.DictBack': WHATEVER THE INPUT: true; the input reads as it did. -/
def dictBackSpec : ChangeSpec := { name := "dictBack", fn := fun _ => fun
  | [d1, d2, d3, d4] => { results := [.lit (.bool true)], args := [d1, d2, d3, d4] }
  | _ => none }
def dictBackRow : OpenClaim := { program := "ytkkhghipbnpiaaa", sum := "0e7efea7c3c0bc2155313eceff3a934f2ec83abbbf779d3acb7c4182411101a8", func := "raftsman/raftsmanlaw07.DictBack", spec := "dictBack", unfollowed := true, recurses := true, apart := false }
def DictBackSaid : Prop := dictBackRow.holds Try.pinned (OpenSpec.ofChange dictBackSpec)

/-- ITS FALSE NEIGHBOUR: 'it returns false'. Refute it at one input. -/
def dictBackWrong : ChangeSpec := { name := "dictBack", fn := fun _ => fun
  | [d1, d2, d3, d4] => { results := [.lit (.bool false)], args := [d1, d2, d3, d4] }
  | _ => none }
def DictBackWrongFalsely : Prop := dictBackRow.holds Try.pinned (OpenSpec.ofChange dictBackWrong)

/-- 'raftsmanlaw07.DictOrder': WHATEVER THE INPUT: true; the input reads as it did. -/
def dictOrderSpec : ChangeSpec := { name := "dictOrder", fn := fun _ => fun
  | [d1, d2] => { results := [.lit (.bool true)], args := [d1, d2] }
  | _ => none }
def dictOrderRow : OpenClaim := { program := "ytkkhghipbnpiaaa", sum := "0e7efea7c3c0bc2155313eceff3a934f2ec83abbbf779d3acb7c4182411101a8", func := "raftsman/raftsmanlaw07.DictOrder", spec := "dictOrder", unfollowed := true, recurses := true, apart := false }
def DictOrderSaid : Prop := dictOrderRow.holds Try.pinned (OpenSpec.ofChange dictOrderSpec)

/-- ITS FALSE NEIGHBOUR: 'it returns false'. Refute it at one input. -/
def dictOrderWrong : ChangeSpec := { name := "dictOrder", fn := fun _ => fun
  | [d1, d2] => { results := [.lit (.bool false)], args := [d1, d2] }
  | _ => none }
def DictOrderWrongFalsely : Prop := dictOrderRow.holds Try.pinned (OpenSpec.ofChange dictOrderWrong)

/-- 'raftsmanlaw07.DictFrom': WHATEVER THE INPUT: true; the input reads as it did. -/
def dictFromSpec : ChangeSpec := { name := "dictFrom", fn := fun _ => fun
  | [d1, d2, d3] => { results := [.lit (.bool true)], args := [d1, d2, d3] }
  | _ => none }
def dictFromRow : OpenClaim := { program := "ytkkhghipbnpiaaa", sum := "0e7efea7c3c0bc2155313eceff3a934f2ec83abbbf779d3acb7c4182411101a8", func := "raftsman/raftsmanlaw07.DictFrom", spec := "dictFrom", unfollowed := true, recurses := true, apart := false }
def DictFromSaid : Prop := dictFromRow.holds Try.pinned (OpenSpec.ofChange dictFromSpec)

/-- ITS FALSE NEIGHBOUR: 'it returns false'. Refute it at one input. -/
def dictFromWrong : ChangeSpec := { name := "dictFrom", fn := fun _ => fun
  | [d1, d2, d3] => { results := [.lit (.bool false)], args := [d1, d2, d3] }
  | _ => none }
def DictFromWrongFalsely : Prop := dictFromRow.holds Try.pinned (OpenSpec.ofChange dictFromWrong)

/-- 'raftsmanlaw07.DictApart': WHATEVER THE INPUT: true; the input reads as it did. -/
def dictApartSpec : ChangeSpec := { name := "dictApart", fn := fun _ => fun
  | [d1, d2, d3, d4] => { results := [.lit (.bool true)], args := [d1, d2, d3, d4] }
  | _ => none }
def dictApartRow : OpenClaim := { program := "ytkkhghipbnpiaaa", sum := "0e7efea7c3c0bc2155313eceff3a934f2ec83abbbf779d3acb7c4182411101a8", func := "raftsman/raftsmanlaw07.DictApart", spec := "dictApart", unfollowed := true, recurses := true, apart := false }
def DictApartSaid : Prop := dictApartRow.holds Try.pinned (OpenSpec.ofChange dictApartSpec)

/-- ITS FALSE NEIGHBOUR: 'it returns false'. Refute it at one input. -/
def dictApartWrong : ChangeSpec := { name := "dictApart", fn := fun _ => fun
  | [d1, d2, d3, d4] => { results := [.lit (.bool false)], args := [d1, d2, d3, d4] }
  | _ => none }
def DictApartWrongFalsely : Prop := dictApartRow.holds Try.pinned (OpenSpec.ofChange dictApartWrong)

/- THE SECOND FORM. 'bulk': how many values and letters a reading holds, each counted each time it is reached (what is shared counts as often as it is met; a slice's spare places count too). A statement '..UptoSaid' is the law's where the arguments, and the package variables that the reading takes, are together of bulk at most 1048576: NARROWER than '..Said'. Prove '..Said' where nothing that the law and all that it calls make is longer than what came in: it says more and counts as full. Else prove '..UptoSaid'. A law counts once. -/
mutual
def uptoBulk {H : Type} : DataW H → Nat
  | .lit (.string bytes) => bytes.length + 1
  | .lit _ => 1
  | .nil => 1
  | .ptr d => uptoBulk d + 1
  | .slice elems spare => uptoBulkAll elems + uptoBulkAll spare + 1
  | .agg parts => uptoBulkAll parts + 1
  | .iface _ d => uptoBulk d + 1
  | .map entries => uptoBulkEntries entries + 1
  | .held _ => 1
def uptoBulkAll {H : Type} : List (DataW H) → Nat
  | [] => 0
  | d :: r => uptoBulk d + uptoBulkAll r
def uptoBulkEntries {H : Type} : List (Lit × DataW H) → Nat
  | [] => 0
  | x :: r => uptoBulkEntry x + uptoBulkEntries r
def uptoBulkEntry {H : Type} : Lit × DataW H → Nat
  | (.string bytes, d) => bytes.length + uptoBulk d + 1
  | (_, d) => uptoBulk d + 1
 end
def uptoSmall : (H : Type) → List (DataW H) → Bool := fun _ ds => decide (uptoBulkAll ds ≤ 1048576)
def OpenSpec.upto (s : _root_.Go.ChangeSpec) : _root_.Go.OpenSpec := { _root_.Go.OpenSpec.ofChange s with cond := some uptoSmall }

/-- 'raftsmanlaw07.DictTells', WHERE WHAT IT READS IS OF BULK AT MOST 1048576: true; the input reads as it did. -/
def dictTellsUptoRow : OpenClaim := { program := "ytkkhghipbnpiaaa", sum := "0e7efea7c3c0bc2155313eceff3a934f2ec83abbbf779d3acb7c4182411101a8", func := "raftsman/raftsmanlaw07.DictTells", spec := "dictTells", unfollowed := true, recurses := true, apart := false, narrowed := true }
def DictTellsUptoSaid : Prop := dictTellsUptoRow.holds Try.pinned (OpenSpec.upto dictTellsSpec)

/-- 'raftsmanlaw07.DictBack', WHERE WHAT IT READS IS OF BULK AT MOST 1048576: true; the input reads as it did. -/
def dictBackUptoRow : OpenClaim := { program := "ytkkhghipbnpiaaa", sum := "0e7efea7c3c0bc2155313eceff3a934f2ec83abbbf779d3acb7c4182411101a8", func := "raftsman/raftsmanlaw07.DictBack", spec := "dictBack", unfollowed := true, recurses := true, apart := false, narrowed := true }
def DictBackUptoSaid : Prop := dictBackUptoRow.holds Try.pinned (OpenSpec.upto dictBackSpec)

/-- 'raftsmanlaw07.DictOrder', WHERE WHAT IT READS IS OF BULK AT MOST 1048576: true; the input reads as it did. -/
def dictOrderUptoRow : OpenClaim := { program := "ytkkhghipbnpiaaa", sum := "0e7efea7c3c0bc2155313eceff3a934f2ec83abbbf779d3acb7c4182411101a8", func := "raftsman/raftsmanlaw07.DictOrder", spec := "dictOrder", unfollowed := true, recurses := true, apart := false, narrowed := true }
def DictOrderUptoSaid : Prop := dictOrderUptoRow.holds Try.pinned (OpenSpec.upto dictOrderSpec)

/-- 'raftsmanlaw07.DictFrom', WHERE WHAT IT READS IS OF BULK AT MOST 1048576: true; the input reads as it did. -/
def dictFromUptoRow : OpenClaim := { program := "ytkkhghipbnpiaaa", sum := "0e7efea7c3c0bc2155313eceff3a934f2ec83abbbf779d3acb7c4182411101a8", func := "raftsman/raftsmanlaw07.DictFrom", spec := "dictFrom", unfollowed := true, recurses := true, apart := false, narrowed := true }
def DictFromUptoSaid : Prop := dictFromUptoRow.holds Try.pinned (OpenSpec.upto dictFromSpec)

/-- 'raftsmanlaw07.DictApart', WHERE WHAT IT READS IS OF BULK AT MOST 1048576: true; the input reads as it did. -/
def dictApartUptoRow : OpenClaim := { program := "ytkkhghipbnpiaaa", sum := "0e7efea7c3c0bc2155313eceff3a934f2ec83abbbf779d3acb7c4182411101a8", func := "raftsman/raftsmanlaw07.DictApart", spec := "dictApart", unfollowed := true, recurses := true, apart := false, narrowed := true }
def DictApartUptoSaid : Prop := dictApartUptoRow.holds Try.pinned (OpenSpec.upto dictApartSpec)

end Rows
end Go.Proofs.Ytkkhghipbnpiaaa
