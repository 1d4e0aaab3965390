/-
  DERIVED. GIVEN WITH THE SEED: THE CARDS: each row of YtahodfikhocobaaGreatDoorRows.lean that lists a variable, with what it lists TIED to the program's text (the seventh form; the later family's looks); each row that meets fmt, with fmt's text TOLD by the authors' own Lean function (tested against real Go, not proved from fmt's source: count such statements apart). THE CARD IS WHAT COUNTS. Prove the row's statement (the work); the ties are given (YtahodfikhocobaaGreatDoorTie.lean); close each card by the builder's one call (the guide's Derived/Test/ToyasCard.lean, 'card_holds'). Laid BY PROGRAM, IN A SANDBOX (cutbox-door.mjs). By AI agents, Wed Nov 11 2026. No macro, syntax, notation, axiom, sorry.
-/
import Derived.Test.YtahodfikhocobaaGreatDoorRows
import GoSem.ClaimSeven
namespace Go.Proofs.YtahodfikhocobaaGreatDoor
namespace Rows

/-- THE TIED CARD OF 'raftsmantop.TopSearches'. -/
def topSearchesCard : Claim7 := { stood := { row := topSearchesRow, standIns := [], harness := (true, "663251e84aa32c05fda1b78ec14757e55a39df52308175cb05b1b07e41a4e44d"), looks := true }, kinds := [], alts := [], laidByText := true, laidKinds := [.data, .data, .data], laidTests := true, laidLooks := .later }
def TopSearchesCardSaid : Prop := Claim7.holds Tryz.pinned (.plain (OpenSpec.ofChange topSearchesSpec)) topSearchesCard

/-- THE TIED CARD OF 'raftsmantop.TopSeeds'. -/
def topSeedsCard : Claim7 := { stood := { row := topSeedsRow, standIns := [], harness := (true, "663251e84aa32c05fda1b78ec14757e55a39df52308175cb05b1b07e41a4e44d"), looks := true }, kinds := [], alts := [], laidByText := true, laidKinds := [.data, .data, .data], laidTests := true, laidLooks := .later }
def TopSeedsCardSaid : Prop := Claim7.holds Tryz.pinned (.plain (OpenSpec.ofChange topSeedsSpec)) topSeedsCard

/-- THE SECOND FORM's CARD OF 'raftsmantop.TopSearches'. -/
def topSearchesUptoCard : Claim7 := { stood := { row := topSearchesUptoRow, standIns := [], harness := (true, "663251e84aa32c05fda1b78ec14757e55a39df52308175cb05b1b07e41a4e44d"), looks := true }, kinds := [], alts := [], laidByText := true, laidKinds := [.data, .data, .data], laidTests := true, laidLooks := .later }
def TopSearchesUptoCardSaid : Prop := Claim7.holds Tryz.pinned (.plain (OpenSpec.upto topSearchesSpec)) topSearchesUptoCard

/-- THE SECOND FORM's CARD OF 'raftsmantop.TopSeeds'. -/
def topSeedsUptoCard : Claim7 := { stood := { row := topSeedsUptoRow, standIns := [], harness := (true, "663251e84aa32c05fda1b78ec14757e55a39df52308175cb05b1b07e41a4e44d"), looks := true }, kinds := [], alts := [], laidByText := true, laidKinds := [.data, .data, .data], laidTests := true, laidLooks := .later }
def TopSeedsUptoCardSaid : Prop := Claim7.holds Tryz.pinned (.plain (OpenSpec.upto topSeedsSpec)) topSeedsUptoCard
end Rows
end Go.Proofs.YtahodfikhocobaaGreatDoor
