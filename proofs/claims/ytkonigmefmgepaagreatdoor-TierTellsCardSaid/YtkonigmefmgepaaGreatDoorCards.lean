/-
  DERIVED. GIVEN WITH THE SEED: THE CARDS: each row of YtkonigmefmgepaaGreatDoorRows.lean that lists a variable, with what it lists TIED to the program's text (the seventh form; the later family's looks); each row that meets fmt, with fmt's text TOLD by the authors' own Lean function (tested against real Go, not proved from fmt's source: count such statements apart). THE CARD IS WHAT COUNTS. Prove the row's statement (the work); the ties are given (YtkonigmefmgepaaGreatDoorTie.lean); close each card by the builder's one call (the guide's Derived/Test/ToyasCard.lean, 'card_holds'). Laid BY PROGRAM, IN A SANDBOX (cutbox-door.mjs). By AI agents, Wed Nov 11 2026. No macro, syntax, notation, axiom, sorry.
-/
import Derived.Test.YtkonigmefmgepaaGreatDoorRows
import GoSem.ClaimSeven
namespace Go.Proofs.YtkonigmefmgepaaGreatDoor
namespace Rows

/-- THE TIED CARD OF 'evenhandlaw19.TierTells'. -/
def tierTellsCard : Claim7 := { stood := { row := tierTellsRow, standIns := [], harness := (true, "c7194ef3e42c5d562118270d08583060597eaabda6239f71caa4d4960b36f25a"), looks := false }, kinds := [], alts := [], laidByText := true, laidKinds := [.data, .data, .data, .data], laidTests := true, laidLooks := .later }
def TierTellsCardSaid : Prop := Claim7.holds Tryz.pinned (.plain (OpenSpec.ofChange tierTellsSpec)) tierTellsCard

/-- THE SECOND FORM's CARD OF 'evenhandlaw19.TierTells'. -/
def tierTellsUptoCard : Claim7 := { stood := { row := tierTellsUptoRow, standIns := [], harness := (true, "c7194ef3e42c5d562118270d08583060597eaabda6239f71caa4d4960b36f25a"), looks := false }, kinds := [], alts := [], laidByText := true, laidKinds := [.data, .data, .data, .data], laidTests := true, laidLooks := .later }
def TierTellsUptoCardSaid : Prop := Claim7.holds Tryz.pinned (.plain (OpenSpec.upto tierTellsSpec)) tierTellsUptoCard
end Rows
end Go.Proofs.YtkonigmefmgepaaGreatDoor
