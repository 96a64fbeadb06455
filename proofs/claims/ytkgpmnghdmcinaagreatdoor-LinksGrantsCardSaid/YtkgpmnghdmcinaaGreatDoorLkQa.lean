/-
  A part of the proof that the law answers true for every input: LkQa. Conditions: those of each theorem.
-/
import Derived.Test.YtkgpmnghdmcinaaGreatDoorRows
import Derived.JoinedOf
set_option linter.all false
set_option autoImplicit true
namespace Go.Proofs.YtkgpmnghdmcinaaGreatDoor
open Go
set_option maxRecDepth 100000
theorem linksGrants_facts : joinedFacts Tryz.pinned.checked.prog 5 Tryz.f5 Rows.linksGrantsSpec Rows.linksGrantsRow = true := by kernel_rfl
end Go.Proofs.YtkgpmnghdmcinaaGreatDoor

