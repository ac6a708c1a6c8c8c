/-
  DERIVED. GIVEN WITH THE SEED: THE CARDS: each row of YtiojahpkaogigaaGreatDoorRows.lean that lists a variable, with what it lists TIED to the program's text (the seventh form; the later family's looks); each row that meets fmt, with fmt's text TOLD by the authors' own Lean function (tested against real Go, not proved from fmt's source: count such statements apart). THE CARD IS WHAT COUNTS. Prove the row's statement (the work); the ties are given (YtiojahpkaogigaaGreatDoorTie.lean); close each card by the builder's one call (the guide's Derived/Test/ToyasCard.lean, 'card_holds'). Laid BY PROGRAM, IN A SANDBOX (cutbox-door.mjs). By AI agents, Wed Nov 11 2026. No macro, syntax, notation, axiom, sorry.
-/
import Derived.Test.YtiojahpkaogigaaGreatDoorRows
import GoSem.ClaimSeven
namespace Go.Proofs.YtiojahpkaogigaaGreatDoor
namespace Rows

/-- THE TIED CARD OF 'triggerstorelaw22.EventCounts'. -/
def eventCountsCard : Claim7 := { stood := { row := eventCountsRow, standIns := [], harness := (true, "692eec9d4fb1e31b91a013ee127cbc139ddb306c53b635b7d3e6ba5584f27847"), looks := false }, kinds := [], alts := [], laidByText := true, laidKinds := [.data, .data], laidTests := true, laidLooks := .later }
def EventCountsCardSaid : Prop := Claim7.holds Tryz.pinned (.plain (OpenSpec.ofChange eventCountsSpec)) eventCountsCard

/-- THE SECOND FORM's CARD OF 'triggerstorelaw22.EventCounts'. -/
def eventCountsUptoCard : Claim7 := { stood := { row := eventCountsUptoRow, standIns := [], harness := (true, "692eec9d4fb1e31b91a013ee127cbc139ddb306c53b635b7d3e6ba5584f27847"), looks := false }, kinds := [], alts := [], laidByText := true, laidKinds := [.data, .data], laidTests := true, laidLooks := .later }
def EventCountsUptoCardSaid : Prop := Claim7.holds Tryz.pinned (.plain (OpenSpec.upto eventCountsSpec)) eventCountsUptoCard
end Rows
end Go.Proofs.YtiojahpkaogigaaGreatDoor
