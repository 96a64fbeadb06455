/-
  The tied card of waybilllaw22.LinksPrints holds: for every input the law returns true and leaves its arguments as they were. Conditions: the listed package variables read as laid, which the card ties to the text.
-/
import Derived.Test.YtkgpmnghdmcinaaGreatDoorLkF
import Derived.Test.YtkgpmnghdmcinaaGreatDoorLkFa
set_option linter.all false
set_option autoImplicit true
namespace Go.Proofs.YtkgpmnghdmcinaaGreatDoor
open Go
set_option maxRecDepth 100000

theorem lp_named : Tryz.pinned.checked.prog.funcNamed Rows.linksPrintsRow.func = some 4 := by kernel_rfl
theorem lp_inst : Tryz.f4.isInstance Tryz.pinned.checked.prog Rows.linksPrintsRow.origin Rows.linksPrintsRow.targs := of_decide_eq_true (by kernel_rfl)
theorem lp_wrap : Tryz.f4.isWrapper Tryz.pinned.checked.prog Rows.linksPrintsRow.wrapper Rows.linksPrintsRow.mainSum := by unfold Func.isWrapper; first | (rw [if_pos (by decide +kernel)]; kernel_rfl) | (rw [if_neg (by decide +kernel)]; exact ⟨rfl, rfl⟩)

theorem linksPrints_row : Rows.LinksPrintsSaid :=
  OpenClaim.holds_of_wide 4 Tryz.f4 rfl rfl rfl rfl rfl rfl rfl ⟨rfl, rfl, rfl, rfl, rfl⟩ rfl rfl rfl rfl rfl lp_named Tryz.func4 lp_facts lp_inst lp_wrap
    (fun os started H enc _ => MI.Tryz.prints_lifted os started H enc)

theorem linksPrints_holds : Rows.LinksPrintsCardSaid :=
  Claim7.holds_tied_plain_at .later [] [.data, .handle, .data, .data, .pinned] true (true, "7e0a9240203052182fa8a8d00eb2a622eb8ccd82c2363b60a2f534a7f81a39e2") true
    linksPrints_row (fun _ h => by cases h) (by kernel_rfl) (fun _ h => by cases h) linksPrints_row_tie rfl ⟨rfl, rfl⟩ (by kernel_rfl) rfl
    (fun f fn hf hfn => by
      obtain rfl : f = 4 := Option.some.inj (lp_named.symm.trans hf) |>.symm
      obtain rfl : fn = Tryz.f4 := (Option.some.inj (Tryz.func4.symm.trans hfn)).symm
      exact ⟨by kernel_rfl, fun j t ht => by
        rw [Tryz.params4] at ht
        have hm : t ∈ [28, 24, 9] := by simpa using Array.mem_of_getElem? ht
        have hall : ([28, 24, 9].all fun u => !Tryz.prog.wantsStandIn u) = true := by kernel_rfl
        exact (show Tryz.prog.wantsStandIn t = false by simpa using List.all_eq_true.1 hall t hm)⟩)
    (by kernel_rfl)
end Go.Proofs.YtkgpmnghdmcinaaGreatDoor

