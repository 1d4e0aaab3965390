/-
  No cell of these rows narrows 'for every input' (looked for: loops, veiled, ifaces, maps, wideKeys, modest, calm, conditions, laid).
  DERIVED. THE GIVEN ROWS OF THIS SEAT. 8 by the template 'for every input the law returns true; each argument reads behind the call as it read before'; 0 by the template 'total and deterministic' (their statements: YtbafbnkmmpaomaaTotals.lean).
  GIVEN WITH THE SEED: the statements are not yours to turn. If you find one false, say at which input.
  Laid BY PROGRAM, IN A SANDBOX (cutbox-rows.mjs): the forced cells as the released guide's own fill.sh prints them over the translation dda749694a295648… (all of the seat's roots in one cut). By AI agents, Wed Nov 11 2026. No macro, syntax, notation, axiom, sorry.
-/
import Derived.Test.YtbafbnkmmpaomaaChecked
import GoSem.Claim
import GoSem.ClaimJoined
import GoSem.ClaimMapViews
import Derived.JoinedTies
import Derived.KernelRfl
namespace Go.Proofs.Ytbafbnkmmpaomaa
/- THE CELL 'sum', in the pinned program and in every row, IS THE sha256 OF THE DUMP (.gsa) THAT YtbafbnkmmpaomaaProg.lean LOADS. Nothing in Lean hashes anything: it is a label: what it is worth is what the hold of that sum in a sandbox is worth. -/
noncomputable def Try.pinned : Pinned := { name := "ytbafbnkmmpaomaa", sum := "dda749694a295648b276efa5b94ff059ff385eff6b652485cacd4a616bdf3a37", checked := Try.checked }
namespace Rows
def none {H : Type} : Left H := { results := [], args := [] }

/-- 'raftsmanlaw19.SnapSaves': WHATEVER THE INPUT: true; the input reads as it did. -/
def snapSavesSpec : ChangeSpec := { name := "snapSaves", fn := fun _ => fun
  | [d1, d2] => { results := [.lit (.bool true)], args := [d1, d2] }
  | _ => none }
def snapSavesRow : OpenClaim := { program := "ytbafbnkmmpaomaa", sum := "dda749694a295648b276efa5b94ff059ff385eff6b652485cacd4a616bdf3a37", func := "raftsman/raftsmanlaw19.SnapSaves", spec := "snapSaves", unfollowed := true, recurses := true, named := ["math/bits.divideError", "math/bits.overflowError"], apart := false }
def SnapSavesSaid : Prop := snapSavesRow.holds Try.pinned (OpenSpec.ofChange snapSavesSpec)

/-- ITS FALSE NEIGHBOUR: 'it returns false'. Refute it at one input. -/
def snapSavesWrong : ChangeSpec := { name := "snapSaves", fn := fun _ => fun
  | [d1, d2] => { results := [.lit (.bool false)], args := [d1, d2] }
  | _ => none }
def SnapSavesWrongFalsely : Prop := snapSavesRow.holds Try.pinned (OpenSpec.ofChange snapSavesWrong)

/-- 'raftsmanlaw19.SnapBack': WHATEVER THE INPUT: true; the input reads as it did. -/
def snapBackSpec : ChangeSpec := { name := "snapBack", fn := fun _ => fun
  | [d] => { results := [.lit (.bool true)], args := [d] }
  | _ => none }
def snapBackRow : OpenClaim := { program := "ytbafbnkmmpaomaa", sum := "dda749694a295648b276efa5b94ff059ff385eff6b652485cacd4a616bdf3a37", func := "raftsman/raftsmanlaw19.SnapBack", spec := "snapBack", unfollowed := true, recurses := true, named := ["math/bits.divideError", "math/bits.overflowError"], apart := false }
def SnapBackSaid : Prop := snapBackRow.holds Try.pinned (OpenSpec.ofChange snapBackSpec)

/-- ITS FALSE NEIGHBOUR: 'it returns false'. Refute it at one input. -/
def snapBackWrong : ChangeSpec := { name := "snapBack", fn := fun _ => fun
  | [d] => { results := [.lit (.bool false)], args := [d] }
  | _ => none }
def SnapBackWrongFalsely : Prop := snapBackRow.holds Try.pinned (OpenSpec.ofChange snapBackWrong)

/-- 'raftsmanlaw19.SnapOnce': WHATEVER THE INPUT: true; the input reads as it did. -/
def snapOnceSpec : ChangeSpec := { name := "snapOnce", fn := fun _ => fun
  | [d] => { results := [.lit (.bool true)], args := [d] }
  | _ => none }
def snapOnceRow : OpenClaim := { program := "ytbafbnkmmpaomaa", sum := "dda749694a295648b276efa5b94ff059ff385eff6b652485cacd4a616bdf3a37", func := "raftsman/raftsmanlaw19.SnapOnce", spec := "snapOnce", unfollowed := true, recurses := true, named := ["math/bits.divideError", "math/bits.overflowError"], apart := false }
def SnapOnceSaid : Prop := snapOnceRow.holds Try.pinned (OpenSpec.ofChange snapOnceSpec)

/-- ITS FALSE NEIGHBOUR: 'it returns false'. Refute it at one input. -/
def snapOnceWrong : ChangeSpec := { name := "snapOnce", fn := fun _ => fun
  | [d] => { results := [.lit (.bool false)], args := [d] }
  | _ => none }
def SnapOnceWrongFalsely : Prop := snapOnceRow.holds Try.pinned (OpenSpec.ofChange snapOnceWrong)

/-- 'raftsmanlaw19.SnapChanged': WHATEVER THE INPUT: true; the input reads as it did. -/
def snapChangedSpec : ChangeSpec := { name := "snapChanged", fn := fun _ => fun
  | [d1, d2, d3] => { results := [.lit (.bool true)], args := [d1, d2, d3] }
  | _ => none }
def snapChangedRow : OpenClaim := { program := "ytbafbnkmmpaomaa", sum := "dda749694a295648b276efa5b94ff059ff385eff6b652485cacd4a616bdf3a37", func := "raftsman/raftsmanlaw19.SnapChanged", spec := "snapChanged", unfollowed := true, recurses := true, named := ["math/bits.divideError", "math/bits.overflowError"], apart := false }
def SnapChangedSaid : Prop := snapChangedRow.holds Try.pinned (OpenSpec.ofChange snapChangedSpec)

/-- ITS FALSE NEIGHBOUR: 'it returns false'. Refute it at one input. -/
def snapChangedWrong : ChangeSpec := { name := "snapChanged", fn := fun _ => fun
  | [d1, d2, d3] => { results := [.lit (.bool false)], args := [d1, d2, d3] }
  | _ => none }
def SnapChangedWrongFalsely : Prop := snapChangedRow.holds Try.pinned (OpenSpec.ofChange snapChangedWrong)

/-- 'raftsmanlaw19.SnapApart': WHATEVER THE INPUT: true; the input reads as it did. -/
def snapApartSpec : ChangeSpec := { name := "snapApart", fn := fun _ => fun
  | [d1, d2] => { results := [.lit (.bool true)], args := [d1, d2] }
  | _ => none }
def snapApartRow : OpenClaim := { program := "ytbafbnkmmpaomaa", sum := "dda749694a295648b276efa5b94ff059ff385eff6b652485cacd4a616bdf3a37", func := "raftsman/raftsmanlaw19.SnapApart", spec := "snapApart", unfollowed := true, recurses := true, named := ["math/bits.divideError", "math/bits.overflowError"], apart := false }
def SnapApartSaid : Prop := snapApartRow.holds Try.pinned (OpenSpec.ofChange snapApartSpec)

/-- ITS FALSE NEIGHBOUR: 'it returns false'. Refute it at one input. -/
def snapApartWrong : ChangeSpec := { name := "snapApart", fn := fun _ => fun
  | [d1, d2] => { results := [.lit (.bool false)], args := [d1, d2] }
  | _ => none }
def SnapApartWrongFalsely : Prop := snapApartRow.holds Try.pinned (OpenSpec.ofChange snapApartWrong)

/-- 'raftsmanlaw19.SnapCut': WHATEVER THE INPUT: true; the input reads as it did. -/
def snapCutSpec : ChangeSpec := { name := "snapCut", fn := fun _ => fun
  | [d1, d2, d3] => { results := [.lit (.bool true)], args := [d1, d2, d3] }
  | _ => none }
def snapCutRow : OpenClaim := { program := "ytbafbnkmmpaomaa", sum := "dda749694a295648b276efa5b94ff059ff385eff6b652485cacd4a616bdf3a37", func := "raftsman/raftsmanlaw19.SnapCut", spec := "snapCut", unfollowed := true, recurses := true, named := ["math/bits.divideError", "math/bits.overflowError"], apart := false }
def SnapCutSaid : Prop := snapCutRow.holds Try.pinned (OpenSpec.ofChange snapCutSpec)

/-- ITS FALSE NEIGHBOUR: 'it returns false'. Refute it at one input. -/
def snapCutWrong : ChangeSpec := { name := "snapCut", fn := fun _ => fun
  | [d1, d2, d3] => { results := [.lit (.bool false)], args := [d1, d2, d3] }
  | _ => none }
def SnapCutWrongFalsely : Prop := snapCutRow.holds Try.pinned (OpenSpec.ofChange snapCutWrong)

/-- 'raftsmanlaw19.SnapTurned': WHATEVER THE INPUT: true; the input reads as it did. -/
def snapTurnedSpec : ChangeSpec := { name := "snapTurned", fn := fun _ => fun
  | [d1, d2, d3] => { results := [.lit (.bool true)], args := [d1, d2, d3] }
  | _ => none }
def snapTurnedRow : OpenClaim := { program := "ytbafbnkmmpaomaa", sum := "dda749694a295648b276efa5b94ff059ff385eff6b652485cacd4a616bdf3a37", func := "raftsman/raftsmanlaw19.SnapTurned", spec := "snapTurned", unfollowed := true, recurses := true, named := ["math/bits.divideError", "math/bits.overflowError"], apart := false }
def SnapTurnedSaid : Prop := snapTurnedRow.holds Try.pinned (OpenSpec.ofChange snapTurnedSpec)

/-- ITS FALSE NEIGHBOUR: 'it returns false'. Refute it at one input. -/
def snapTurnedWrong : ChangeSpec := { name := "snapTurned", fn := fun _ => fun
  | [d1, d2, d3] => { results := [.lit (.bool false)], args := [d1, d2, d3] }
  | _ => none }
def SnapTurnedWrongFalsely : Prop := snapTurnedRow.holds Try.pinned (OpenSpec.ofChange snapTurnedWrong)

/-- 'raftsmanlaw19.SnapSums': WHATEVER THE INPUT: true; the input reads as it did. -/
def snapSumsSpec : ChangeSpec := { name := "snapSums", fn := fun _ => fun
  | [d1, d2] => { results := [.lit (.bool true)], args := [d1, d2] }
  | _ => none }
def snapSumsRow : OpenClaim := { program := "ytbafbnkmmpaomaa", sum := "dda749694a295648b276efa5b94ff059ff385eff6b652485cacd4a616bdf3a37", func := "raftsman/raftsmanlaw19.SnapSums", spec := "snapSums", unfollowed := true, recurses := true, named := ["math/bits.divideError", "math/bits.overflowError"], apart := false }
def SnapSumsSaid : Prop := snapSumsRow.holds Try.pinned (OpenSpec.ofChange snapSumsSpec)

/-- ITS FALSE NEIGHBOUR: 'it returns false'. Refute it at one input. -/
def snapSumsWrong : ChangeSpec := { name := "snapSums", fn := fun _ => fun
  | [d1, d2] => { results := [.lit (.bool false)], args := [d1, d2] }
  | _ => none }
def SnapSumsWrongFalsely : Prop := snapSumsRow.holds Try.pinned (OpenSpec.ofChange snapSumsWrong)

/- THE SECOND FORM. 'bulk': how many values and letters a reading holds, each counted each time it is reached (what is shared counts as often as it is met; a slice's spare places count too). A statement '..UptoSaid' is the law's where the arguments, and the package variables that the reading takes, are together of bulk at most 1048576: NARROWER than '..Said'. Prove '..Said' where nothing that the law and all that it calls make is longer than what came in: it says more and counts as full. Else prove '..UptoSaid'. A law counts once. -/
mutual
def uptoBulk {H : Type} : DataW H → Nat
  | .lit (.string bytes) => bytes.length + 1
  | .lit _ => 1
  | .nil => 1
  | .ptr d => uptoBulk d + 1
  | .slice elems spare => uptoBulkAll elems + uptoBulkAll spare + 1
  | .agg parts => uptoBulkAll parts + 1
  | .iface _ d => uptoBulk d + 1
  | .map entries => uptoBulkEntries entries + 1
  | .held _ => 1
def uptoBulkAll {H : Type} : List (DataW H) → Nat
  | [] => 0
  | d :: r => uptoBulk d + uptoBulkAll r
def uptoBulkEntries {H : Type} : List (Lit × DataW H) → Nat
  | [] => 0
  | x :: r => uptoBulkEntry x + uptoBulkEntries r
def uptoBulkEntry {H : Type} : Lit × DataW H → Nat
  | (.string bytes, d) => bytes.length + uptoBulk d + 1
  | (_, d) => uptoBulk d + 1
 end
def uptoSmall : (H : Type) → List (DataW H) → Bool := fun _ ds => decide (uptoBulkAll ds ≤ 1048576)
def OpenSpec.upto (s : _root_.Go.ChangeSpec) : _root_.Go.OpenSpec := { _root_.Go.OpenSpec.ofChange s with cond := some uptoSmall }

/-- 'raftsmanlaw19.SnapSaves', WHERE WHAT IT READS IS OF BULK AT MOST 1048576: true; the input reads as it did. -/
def snapSavesUptoRow : OpenClaim := { program := "ytbafbnkmmpaomaa", sum := "dda749694a295648b276efa5b94ff059ff385eff6b652485cacd4a616bdf3a37", func := "raftsman/raftsmanlaw19.SnapSaves", spec := "snapSaves", unfollowed := true, recurses := true, named := ["math/bits.divideError", "math/bits.overflowError"], apart := false, narrowed := true }
def SnapSavesUptoSaid : Prop := snapSavesUptoRow.holds Try.pinned (OpenSpec.upto snapSavesSpec)

/-- 'raftsmanlaw19.SnapBack', WHERE WHAT IT READS IS OF BULK AT MOST 1048576: true; the input reads as it did. -/
def snapBackUptoRow : OpenClaim := { program := "ytbafbnkmmpaomaa", sum := "dda749694a295648b276efa5b94ff059ff385eff6b652485cacd4a616bdf3a37", func := "raftsman/raftsmanlaw19.SnapBack", spec := "snapBack", unfollowed := true, recurses := true, named := ["math/bits.divideError", "math/bits.overflowError"], apart := false, narrowed := true }
def SnapBackUptoSaid : Prop := snapBackUptoRow.holds Try.pinned (OpenSpec.upto snapBackSpec)

/-- 'raftsmanlaw19.SnapOnce', WHERE WHAT IT READS IS OF BULK AT MOST 1048576: true; the input reads as it did. -/
def snapOnceUptoRow : OpenClaim := { program := "ytbafbnkmmpaomaa", sum := "dda749694a295648b276efa5b94ff059ff385eff6b652485cacd4a616bdf3a37", func := "raftsman/raftsmanlaw19.SnapOnce", spec := "snapOnce", unfollowed := true, recurses := true, named := ["math/bits.divideError", "math/bits.overflowError"], apart := false, narrowed := true }
def SnapOnceUptoSaid : Prop := snapOnceUptoRow.holds Try.pinned (OpenSpec.upto snapOnceSpec)

/-- 'raftsmanlaw19.SnapChanged', WHERE WHAT IT READS IS OF BULK AT MOST 1048576: true; the input reads as it did. -/
def snapChangedUptoRow : OpenClaim := { program := "ytbafbnkmmpaomaa", sum := "dda749694a295648b276efa5b94ff059ff385eff6b652485cacd4a616bdf3a37", func := "raftsman/raftsmanlaw19.SnapChanged", spec := "snapChanged", unfollowed := true, recurses := true, named := ["math/bits.divideError", "math/bits.overflowError"], apart := false, narrowed := true }
def SnapChangedUptoSaid : Prop := snapChangedUptoRow.holds Try.pinned (OpenSpec.upto snapChangedSpec)

/-- 'raftsmanlaw19.SnapApart', WHERE WHAT IT READS IS OF BULK AT MOST 1048576: true; the input reads as it did. -/
def snapApartUptoRow : OpenClaim := { program := "ytbafbnkmmpaomaa", sum := "dda749694a295648b276efa5b94ff059ff385eff6b652485cacd4a616bdf3a37", func := "raftsman/raftsmanlaw19.SnapApart", spec := "snapApart", unfollowed := true, recurses := true, named := ["math/bits.divideError", "math/bits.overflowError"], apart := false, narrowed := true }
def SnapApartUptoSaid : Prop := snapApartUptoRow.holds Try.pinned (OpenSpec.upto snapApartSpec)

/-- 'raftsmanlaw19.SnapCut', WHERE WHAT IT READS IS OF BULK AT MOST 1048576: true; the input reads as it did. -/
def snapCutUptoRow : OpenClaim := { program := "ytbafbnkmmpaomaa", sum := "dda749694a295648b276efa5b94ff059ff385eff6b652485cacd4a616bdf3a37", func := "raftsman/raftsmanlaw19.SnapCut", spec := "snapCut", unfollowed := true, recurses := true, named := ["math/bits.divideError", "math/bits.overflowError"], apart := false, narrowed := true }
def SnapCutUptoSaid : Prop := snapCutUptoRow.holds Try.pinned (OpenSpec.upto snapCutSpec)

/-- 'raftsmanlaw19.SnapTurned', WHERE WHAT IT READS IS OF BULK AT MOST 1048576: true; the input reads as it did. -/
def snapTurnedUptoRow : OpenClaim := { program := "ytbafbnkmmpaomaa", sum := "dda749694a295648b276efa5b94ff059ff385eff6b652485cacd4a616bdf3a37", func := "raftsman/raftsmanlaw19.SnapTurned", spec := "snapTurned", unfollowed := true, recurses := true, named := ["math/bits.divideError", "math/bits.overflowError"], apart := false, narrowed := true }
def SnapTurnedUptoSaid : Prop := snapTurnedUptoRow.holds Try.pinned (OpenSpec.upto snapTurnedSpec)

/-- 'raftsmanlaw19.SnapSums', WHERE WHAT IT READS IS OF BULK AT MOST 1048576: true; the input reads as it did. -/
def snapSumsUptoRow : OpenClaim := { program := "ytbafbnkmmpaomaa", sum := "dda749694a295648b276efa5b94ff059ff385eff6b652485cacd4a616bdf3a37", func := "raftsman/raftsmanlaw19.SnapSums", spec := "snapSums", unfollowed := true, recurses := true, named := ["math/bits.divideError", "math/bits.overflowError"], apart := false, narrowed := true }
def SnapSumsUptoSaid : Prop := snapSumsUptoRow.holds Try.pinned (OpenSpec.upto snapSumsSpec)

end Rows
end Go.Proofs.Ytbafbnkmmpaomaa
