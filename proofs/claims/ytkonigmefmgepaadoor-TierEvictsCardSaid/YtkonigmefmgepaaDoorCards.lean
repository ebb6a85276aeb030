/-
  DERIVED. GIVEN WITH THE SEED: THE CARDS: each row of YtkonigmefmgepaaDoorRows.lean that lists a variable, with what it lists TIED to the program's text (the seventh form; the later family's looks); each row that meets fmt, with fmt's text TOLD by the authors' own Lean function (tested against real Go, not proved from fmt's source: count such statements apart). THE CARD IS WHAT COUNTS. Prove the row's statement (the work); the ties are given (YtkonigmefmgepaaDoorTie.lean); close each card by the builder's one call (the guide's Derived/Test/ToyasCard.lean, 'card_holds'). Laid BY PROGRAM, IN A SANDBOX (cutbox-door.mjs). By AI agents, Wed Nov 11 2026. No macro, syntax, notation, axiom, sorry.
-/
import Derived.Test.YtkonigmefmgepaaDoorRows
import GoSem.ClaimSeven
namespace Go.Proofs.YtkonigmefmgepaaDoor
namespace Rows

/-- THE TIED CARD OF 'evenhandlaw19.TierPublic'. -/
def tierPublicCard : Claim7 := { stood := { row := tierPublicRow, standIns := [], harness := (true, "cf3a65b70b1d1d27cadebc81e2a59010c7a2895420f230fb49c697d441fe46e5"), looks := false }, kinds := [], alts := [], laidByText := true, laidKinds := [.data, .data, .data, .data], laidTests := true, laidLooks := .later }
def TierPublicCardSaid : Prop := Claim7.holds Tryd.pinned (.plain (OpenSpec.ofChange tierPublicSpec)) tierPublicCard

/-- THE TIED CARD OF 'evenhandlaw19.TierSkips'. -/
def tierSkipsCard : Claim7 := { stood := { row := tierSkipsRow, standIns := [], harness := (true, "cf3a65b70b1d1d27cadebc81e2a59010c7a2895420f230fb49c697d441fe46e5"), looks := false }, kinds := [], alts := [], laidByText := true, laidKinds := [.data, .data, .data, .data], laidTests := true, laidLooks := .later }
def TierSkipsCardSaid : Prop := Claim7.holds Tryd.pinned (.plain (OpenSpec.ofChange tierSkipsSpec)) tierSkipsCard

/-- THE TIED CARD OF 'evenhandlaw19.TierCharges'. -/
def tierChargesCard : Claim7 := { stood := { row := tierChargesRow, standIns := [], harness := (true, "cf3a65b70b1d1d27cadebc81e2a59010c7a2895420f230fb49c697d441fe46e5"), looks := false }, kinds := [], alts := [], laidByText := true, laidKinds := [.data, .data, .data, .data], laidTests := true, laidLooks := .later }
def TierChargesCardSaid : Prop := Claim7.holds Tryd.pinned (.plain (OpenSpec.ofChange tierChargesSpec)) tierChargesCard

/-- THE TIED CARD OF 'evenhandlaw19.TierKeeps'. -/
def tierKeepsCard : Claim7 := { stood := { row := tierKeepsRow, standIns := [], harness := (true, "cf3a65b70b1d1d27cadebc81e2a59010c7a2895420f230fb49c697d441fe46e5"), looks := false }, kinds := [], alts := [], laidByText := true, laidKinds := [.data, .data, .data, .data], laidTests := true, laidLooks := .later }
def TierKeepsCardSaid : Prop := Claim7.holds Tryd.pinned (.plain (OpenSpec.ofChange tierKeepsSpec)) tierKeepsCard

/-- THE TIED CARD OF 'evenhandlaw19.TierEvicts'. -/
def tierEvictsCard : Claim7 := { stood := { row := tierEvictsRow, standIns := [], harness := (true, "cf3a65b70b1d1d27cadebc81e2a59010c7a2895420f230fb49c697d441fe46e5"), looks := false }, kinds := [], alts := [], laidByText := true, laidKinds := [.data, .data, .data, .data], laidTests := true, laidLooks := .later }
def TierEvictsCardSaid : Prop := Claim7.holds Tryd.pinned (.plain (OpenSpec.ofChange tierEvictsSpec)) tierEvictsCard

/-- THE TIED CARD OF 'evenhandlaw19.TierOwn'. -/
def tierOwnCard : Claim7 := { stood := { row := tierOwnRow, standIns := [], harness := (true, "cf3a65b70b1d1d27cadebc81e2a59010c7a2895420f230fb49c697d441fe46e5"), looks := false }, kinds := [], alts := [], laidByText := true, laidKinds := [.data, .data, .data, .data], laidTests := true, laidLooks := .later }
def TierOwnCardSaid : Prop := Claim7.holds Tryd.pinned (.plain (OpenSpec.ofChange tierOwnSpec)) tierOwnCard

/-- THE SECOND FORM's CARD OF 'evenhandlaw19.TierPublic'. -/
def tierPublicUptoCard : Claim7 := { stood := { row := tierPublicUptoRow, standIns := [], harness := (true, "cf3a65b70b1d1d27cadebc81e2a59010c7a2895420f230fb49c697d441fe46e5"), looks := false }, kinds := [], alts := [], laidByText := true, laidKinds := [.data, .data, .data, .data], laidTests := true, laidLooks := .later }
def TierPublicUptoCardSaid : Prop := Claim7.holds Tryd.pinned (.plain (OpenSpec.upto tierPublicSpec)) tierPublicUptoCard

/-- THE SECOND FORM's CARD OF 'evenhandlaw19.TierSkips'. -/
def tierSkipsUptoCard : Claim7 := { stood := { row := tierSkipsUptoRow, standIns := [], harness := (true, "cf3a65b70b1d1d27cadebc81e2a59010c7a2895420f230fb49c697d441fe46e5"), looks := false }, kinds := [], alts := [], laidByText := true, laidKinds := [.data, .data, .data, .data], laidTests := true, laidLooks := .later }
def TierSkipsUptoCardSaid : Prop := Claim7.holds Tryd.pinned (.plain (OpenSpec.upto tierSkipsSpec)) tierSkipsUptoCard

/-- THE SECOND FORM's CARD OF 'evenhandlaw19.TierCharges'. -/
def tierChargesUptoCard : Claim7 := { stood := { row := tierChargesUptoRow, standIns := [], harness := (true, "cf3a65b70b1d1d27cadebc81e2a59010c7a2895420f230fb49c697d441fe46e5"), looks := false }, kinds := [], alts := [], laidByText := true, laidKinds := [.data, .data, .data, .data], laidTests := true, laidLooks := .later }
def TierChargesUptoCardSaid : Prop := Claim7.holds Tryd.pinned (.plain (OpenSpec.upto tierChargesSpec)) tierChargesUptoCard

/-- THE SECOND FORM's CARD OF 'evenhandlaw19.TierKeeps'. -/
def tierKeepsUptoCard : Claim7 := { stood := { row := tierKeepsUptoRow, standIns := [], harness := (true, "cf3a65b70b1d1d27cadebc81e2a59010c7a2895420f230fb49c697d441fe46e5"), looks := false }, kinds := [], alts := [], laidByText := true, laidKinds := [.data, .data, .data, .data], laidTests := true, laidLooks := .later }
def TierKeepsUptoCardSaid : Prop := Claim7.holds Tryd.pinned (.plain (OpenSpec.upto tierKeepsSpec)) tierKeepsUptoCard

/-- THE SECOND FORM's CARD OF 'evenhandlaw19.TierEvicts'. -/
def tierEvictsUptoCard : Claim7 := { stood := { row := tierEvictsUptoRow, standIns := [], harness := (true, "cf3a65b70b1d1d27cadebc81e2a59010c7a2895420f230fb49c697d441fe46e5"), looks := false }, kinds := [], alts := [], laidByText := true, laidKinds := [.data, .data, .data, .data], laidTests := true, laidLooks := .later }
def TierEvictsUptoCardSaid : Prop := Claim7.holds Tryd.pinned (.plain (OpenSpec.upto tierEvictsSpec)) tierEvictsUptoCard

/-- THE SECOND FORM's CARD OF 'evenhandlaw19.TierOwn'. -/
def tierOwnUptoCard : Claim7 := { stood := { row := tierOwnUptoRow, standIns := [], harness := (true, "cf3a65b70b1d1d27cadebc81e2a59010c7a2895420f230fb49c697d441fe46e5"), looks := false }, kinds := [], alts := [], laidByText := true, laidKinds := [.data, .data, .data, .data], laidTests := true, laidLooks := .later }
def TierOwnUptoCardSaid : Prop := Claim7.holds Tryd.pinned (.plain (OpenSpec.upto tierOwnSpec)) tierOwnUptoCard
end Rows
end Go.Proofs.YtkonigmefmgepaaDoor
