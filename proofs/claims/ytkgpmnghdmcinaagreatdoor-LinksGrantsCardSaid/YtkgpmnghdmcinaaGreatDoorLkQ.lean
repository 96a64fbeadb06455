/-
  A part of the proof that the law answers true for every input: LkQ. Conditions: those of each theorem.
-/
import Derived.Test.YtkgpmnghdmcinaaGreatDoorLkP
import Derived.Test.YtkgpmnghdmcinaaGreatDoorLkW
import Derived.Test.YtkgpmnghdmcinaaGreatDoorLkQa
set_option linter.all false
set_option autoImplicit true
namespace MI.Tryz
open Go Go.Proofs Go.Proofs.YtkgpmnghdmcinaaGreatDoor MI Go.ChangeShapes Go.WideShapes Go.ChangeAt Go.RowKit
set_option maxRecDepth 100000

theorem linksGrants_lifted (os : Os) (started : os.Started) (H : Type) (enc : TypeId × Value → H) :
    ReturnsInHanded {} Tryz.checked os 5 .any (fun w args => (Rows.linksGrantsSpec.pre enc Tryz.prog Tryz.f5 [] false w args ∧ laidMetH Tryz.prog laidL w) ∧ sizedMet enc Tryz.prog Tryz.f5 (OpenSpec.ofChange Rows.linksGrantsSpec) false w args)
      (Rows.linksGrantsSpec.post enc Tryz.prog Tryz.f5 false true false false) := by
  refine returnsInHanded_of_change_and (C := Tryz.checked) (X := fun w _ => laidMetH Tryz.prog laidL w) (fun _ _ _ hh h => h.of_heap hh) own started (by kernel_rfl) Tryz.func5
    (ChangeSpec.witness_shaped (enc := enc) (C := Tryz.checked) (os := os) (X := fun w _ => laidMetH Tryz.prog laidL w) false (laidWorld os) #[.slice none 0 0, .string ⟨#[]⟩, .agg (Array.replicate 32 (.int .u8 0)), .string ⟨#[]⟩] 8 rfl (laid_shaped os _) (by kernel_rfl) (by kernel_rfl) (by kernel_rfl) (laid_met os _)) ?_
  intro W base args ds gs before hval0 hW _ _ hL _
  have hval : ∀ (j : Nat) t v, Tryz.f5.params[j]? = some t → args[j]? = some v → Value.okWide Tryz.prog W .any base t v := hval0
  have hW' := hW
  obtain ⟨p, q, hA0, hV, rfl, hfz, hnd⟩ := hW
  have hA : DataW.TrodAll enc cfg.P W 0 (fun _ => true) true [22, 9, 24, 9] args.toList ds p := by rw [← show Tryz.f5.params.toList = [22, 9, 24, 9] from by kernel_rfl]; exact hA0
  obtain ⟨vss, s1, s2, s3⟩ := args_ok good 6 hA (by kernel_rfl)
  have hlen := (trod_lens hA).1
  match hargs : args.toList, vss, s1, hlen with
  | [x0, x1, x2, x3], [u0, u1, u2, u3], _, _ =>
    rw [hargs] at s3
    have hget : ∀ (j : Nat) x, args.toList[j]? = some x → args[j]? = some x := fun j x h => by simpa using h
    have r0 := arg_rel (C := cfg) good (t := 22) (d := 6) (by kernel_rfl) (hval 0 22 x0 (by kernel_rfl) (hget 0 _ (by rw [hargs]; rfl))) (s3 0 u0 x0 rfl rfl)
    have r1 := arg_rel (C := cfg) good (t := 9) (d := 6) (by kernel_rfl) (hval 1 9 x1 (by kernel_rfl) (hget 1 _ (by rw [hargs]; rfl))) (s3 1 u1 x1 rfl rfl)
    have r2 := arg_rel (C := cfg) good (t := 24) (d := 6) (by kernel_rfl) (hval 2 24 x2 (by kernel_rfl) (hget 2 _ (by rw [hargs]; rfl))) (s3 2 u2 x2 rfl rfl)
    have r3 := arg_rel (C := cfg) good (t := 9) (d := 6) (by kernel_rfl) (hval 3 9 x3 (by kernel_rfl) (hget 3 _ (by rw [hargs]; rfl))) (s3 3 u3 x3 rfl rfl)
    obtain ⟨l, rfl, _⟩ := wt_sts (d := 1) (s2 0 22 u0 rfl rfl).1
    obtain ⟨pkg, rfl, _⟩ := wt_str (d := 5) (s2 1 9 u1 rfl rfl).1
    obtain ⟨pp, rfl⟩ := wt_pr (d := 4) (s2 2 24 u2 rfl rfl).1
    obtain ⟨rel, rfl, _⟩ := wt_str (d := 5) (s2 3 9 u3 rfl rfl).1
    have hds : ∃ d0 d1 d2 d3, ds = [d0, d1, d2, d3] := by
      have := (trod_lens hA).2
      match ds, this with
      | [d0, d1, d2, d3], _ => exact ⟨d0, d1, d2, d3, rfl⟩
    obtain ⟨d0, d1, d2, d3, rfl⟩ := hds
    obtain ⟨rfl, rfl⟩ := trodVars_none hV
    have hrel : RelL cfg W.cell? [] [.row (l.map eSt), .str pkg, ePr pp, .str rel] args.toList := by
      rw [hargs]
      exact .cons _ _ _ _ r0 (.cons _ _ _ _ r1 (.cons _ _ _ _ r2 (.cons _ _ _ _ r3 .nil)))
    refine (law_calls good told (fn := Tryz.f5) rfl (by kernel_rfl) rfl hrel (glob_ok hL) (law_grants l pkg pp rel)).mono fun e W' ⟨he, hb⟩ => ?_
    subst he
    exact ⟨_, rfl, law_post laidOut rfl (by decide) hW' hb rfl rfl rfl (bt := 4) (by kernel_rfl) Tryz.underlying4⟩
end MI.Tryz
namespace Go.Proofs.YtkgpmnghdmcinaaGreatDoor
open Go
set_option maxRecDepth 100000

theorem linksGrants_named : Tryz.pinned.checked.prog.funcNamed Rows.linksGrantsRow.func = some 5 := by kernel_rfl
theorem linksGrants_inst : Tryz.f5.isInstance Tryz.pinned.checked.prog Rows.linksGrantsRow.origin Rows.linksGrantsRow.targs := of_decide_eq_true (by kernel_rfl)
theorem linksGrants_wrap : Tryz.f5.isWrapper Tryz.pinned.checked.prog Rows.linksGrantsRow.wrapper Rows.linksGrantsRow.mainSum := by unfold Func.isWrapper; first | (rw [if_pos (by decide +kernel)]; kernel_rfl) | (rw [if_neg (by decide +kernel)]; exact ⟨rfl, rfl⟩)

theorem linksGrants_row : Rows.LinksGrantsSaid :=
  OpenClaim.holds_of_wide 5 Tryz.f5 rfl rfl rfl rfl rfl rfl rfl ⟨rfl, rfl, rfl, rfl, rfl⟩ rfl rfl rfl rfl rfl linksGrants_named Tryz.func5 linksGrants_facts linksGrants_inst linksGrants_wrap
    (fun os started H enc _ => MI.Tryz.linksGrants_lifted os started H enc)

theorem linksGrants_holds : Rows.LinksGrantsCardSaid :=
  Claim7.holds_tied_plain_at .later [] [.data, .handle, .data, .data, .pinned] true (true, "7e0a9240203052182fa8a8d00eb2a622eb8ccd82c2363b60a2f534a7f81a39e2") true
    linksGrants_row (fun _ h => by cases h) (by kernel_rfl) (fun _ h => by cases h) linksGrants_row_tie rfl ⟨rfl, rfl⟩ (by kernel_rfl) rfl
    (fun f fn hf hfn => by
      obtain rfl : f = 5 := Option.some.inj (linksGrants_named.symm.trans hf) |>.symm
      obtain rfl : fn = Tryz.f5 := (Option.some.inj (Tryz.func5.symm.trans hfn)).symm
      exact ⟨by kernel_rfl, fun j t ht => by
        rw [Tryz.params5] at ht
        have hm : t ∈ [22, 9, 24, 9] := by simpa using Array.mem_of_getElem? ht
        have hall : ([22, 9, 24, 9].all fun u => !Tryz.prog.wantsStandIn u) = true := by kernel_rfl
        exact (show Tryz.prog.wantsStandIn t = false by simpa using List.all_eq_true.1 hall t hm)⟩)
    (by kernel_rfl)
end Go.Proofs.YtkgpmnghdmcinaaGreatDoor

