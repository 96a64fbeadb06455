/-
  DERIVED. GIVEN WITH THE SEED: THE CARDS: each row of YtkgpmnghdmcinaaGreatDoorRows.lean that lists a variable, with what it lists TIED to the program's text (the seventh form; the later family's looks); each row that meets fmt, with fmt's text TOLD by the authors' own Lean function (tested against real Go, not proved from fmt's source: count such statements apart). THE CARD IS WHAT COUNTS. Prove the row's statement (the work); the ties are given (YtkgpmnghdmcinaaGreatDoorTie.lean); close each card by the builder's one call (the guide's Derived/Test/ToyasCard.lean, 'card_holds'). Laid BY PROGRAM, IN A SANDBOX (cutbox-door.mjs). By AI agents, Wed Nov 11 2026. No macro, syntax, notation, axiom, sorry.
-/
import Derived.Test.YtkgpmnghdmcinaaGreatDoorRows
import GoSem.ClaimSeven
namespace Go.Proofs.YtkgpmnghdmcinaaGreatDoor
namespace Rows

/-- THE TIED CARD OF 'waybilllaw22.LinksMore'. -/
def linksMoreCard : Claim7 := { stood := { row := linksMoreRow, standIns := [], harness := (true, "7e0a9240203052182fa8a8d00eb2a622eb8ccd82c2363b60a2f534a7f81a39e2"), looks := true }, kinds := [], alts := [], laidByText := true, laidKinds := [.data, .handle, .data, .data, .pinned], laidTests := true, laidLooks := .later }
def LinksMoreCardSaid : Prop := Claim7.holds Tryz.pinned (.plain (OpenSpec.ofChange linksMoreSpec)) linksMoreCard

/-- THE TIED CARD OF 'waybilllaw22.LinksPrints'. -/
def linksPrintsCard : Claim7 := { stood := { row := linksPrintsRow, standIns := [], harness := (true, "7e0a9240203052182fa8a8d00eb2a622eb8ccd82c2363b60a2f534a7f81a39e2"), looks := true }, kinds := [], alts := [], laidByText := true, laidKinds := [.data, .handle, .data, .data, .pinned], laidTests := true, laidLooks := .later }
def LinksPrintsCardSaid : Prop := Claim7.holds Tryz.pinned (.plain (OpenSpec.ofChange linksPrintsSpec)) linksPrintsCard

/-- THE TIED CARD OF 'waybilllaw22.LinksGrants'. -/
def linksGrantsCard : Claim7 := { stood := { row := linksGrantsRow, standIns := [], harness := (true, "7e0a9240203052182fa8a8d00eb2a622eb8ccd82c2363b60a2f534a7f81a39e2"), looks := true }, kinds := [], alts := [], laidByText := true, laidKinds := [.data, .handle, .data, .data, .pinned], laidTests := true, laidLooks := .later }
def LinksGrantsCardSaid : Prop := Claim7.holds Tryz.pinned (.plain (OpenSpec.ofChange linksGrantsSpec)) linksGrantsCard

/-- THE TIED CARD OF 'waybilllaw22.LinksWrites'. -/
def linksWritesCard : Claim7 := { stood := { row := linksWritesRow, standIns := [], harness := (true, "7e0a9240203052182fa8a8d00eb2a622eb8ccd82c2363b60a2f534a7f81a39e2"), looks := true }, kinds := [], alts := [], laidByText := true, laidKinds := [.data, .handle, .data, .data, .pinned], laidTests := true, laidLooks := .later }
def LinksWritesCardSaid : Prop := Claim7.holds Tryz.pinned (.plain (OpenSpec.ofChange linksWritesSpec)) linksWritesCard

/-- THE SECOND FORM's CARD OF 'waybilllaw22.LinksMore'. -/
def linksMoreUptoCard : Claim7 := { stood := { row := linksMoreUptoRow, standIns := [], harness := (true, "7e0a9240203052182fa8a8d00eb2a622eb8ccd82c2363b60a2f534a7f81a39e2"), looks := true }, kinds := [], alts := [], laidByText := true, laidKinds := [.data, .handle, .data, .data, .pinned], laidTests := true, laidLooks := .later }
def LinksMoreUptoCardSaid : Prop := Claim7.holds Tryz.pinned (.plain (OpenSpec.upto linksMoreSpec)) linksMoreUptoCard

/-- THE SECOND FORM's CARD OF 'waybilllaw22.LinksPrints'. -/
def linksPrintsUptoCard : Claim7 := { stood := { row := linksPrintsUptoRow, standIns := [], harness := (true, "7e0a9240203052182fa8a8d00eb2a622eb8ccd82c2363b60a2f534a7f81a39e2"), looks := true }, kinds := [], alts := [], laidByText := true, laidKinds := [.data, .handle, .data, .data, .pinned], laidTests := true, laidLooks := .later }
def LinksPrintsUptoCardSaid : Prop := Claim7.holds Tryz.pinned (.plain (OpenSpec.upto linksPrintsSpec)) linksPrintsUptoCard

/-- THE SECOND FORM's CARD OF 'waybilllaw22.LinksGrants'. -/
def linksGrantsUptoCard : Claim7 := { stood := { row := linksGrantsUptoRow, standIns := [], harness := (true, "7e0a9240203052182fa8a8d00eb2a622eb8ccd82c2363b60a2f534a7f81a39e2"), looks := true }, kinds := [], alts := [], laidByText := true, laidKinds := [.data, .handle, .data, .data, .pinned], laidTests := true, laidLooks := .later }
def LinksGrantsUptoCardSaid : Prop := Claim7.holds Tryz.pinned (.plain (OpenSpec.upto linksGrantsSpec)) linksGrantsUptoCard

/-- THE SECOND FORM's CARD OF 'waybilllaw22.LinksWrites'. -/
def linksWritesUptoCard : Claim7 := { stood := { row := linksWritesUptoRow, standIns := [], harness := (true, "7e0a9240203052182fa8a8d00eb2a622eb8ccd82c2363b60a2f534a7f81a39e2"), looks := true }, kinds := [], alts := [], laidByText := true, laidKinds := [.data, .handle, .data, .data, .pinned], laidTests := true, laidLooks := .later }
def LinksWritesUptoCardSaid : Prop := Claim7.holds Tryz.pinned (.plain (OpenSpec.upto linksWritesSpec)) linksWritesUptoCard
end Rows
end Go.Proofs.YtkgpmnghdmcinaaGreatDoor
