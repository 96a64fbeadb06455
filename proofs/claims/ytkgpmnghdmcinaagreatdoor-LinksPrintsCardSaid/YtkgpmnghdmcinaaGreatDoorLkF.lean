/-
  A part of the proof that the law answers true for every input: LkF. Conditions: those of each theorem.
-/
import Derived.Test.YtkgpmnghdmcinaaGreatDoorLkE
import Derived.Test.YtkgpmnghdmcinaaGreatDoorLkD
set_option linter.all false
set_option autoImplicit true
namespace MI.Tryz
open Go Go.Proofs Go.Proofs.YtkgpmnghdmcinaaGreatDoor MI Go.ChangeShapes Go.WideShapes Go.ChangeAt Go.RowKit
set_option maxRecDepth 100000

theorem wt_u8 {d : Nat} {vs : List V} (h : WT cfg (d + 1) 5 vs) : ∃ b : UInt8, vs = [byteV b] := by
  obtain ⟨n, rfl, h1, h2⟩ : ∃ n, vs = [.int .u8 n] ∧ IntKind.u8.min ≤ n ∧ n ≤ IntKind.u8.max := h
  have h1 : 0 ≤ n := h1
  have h2 : n ≤ 255 := h2
  refine ⟨UInt8.ofNat n.toNat, ?_⟩
  have : n.toNat < 256 := by omega
  simp only [byteV]
  congr 2
  simp [UInt8.toNat_ofNat', Nat.mod_eq_of_lt this]
  omega

theorem wt_pr {d : Nat} {vs : List V} (h : WT cfg (d + 2) 24 vs) : ∃ p : Pr, vs = prC p := by
  have h : WTA (WT cfg (d + 1) 5) 32 vs := h
  obtain ⟨q, rfl⟩ := wta_bytes (fun vs h => wt_u8 h) 32 h
  exact ⟨q, rfl⟩

theorem wt_str {d : Nat} {vs : List V} (h : WT cfg (d + 1) 9 vs) : ∃ s : Bytes, vs = [.str s] ∧ s.length ≤ maxLen := h

theorem wt_prs {d : Nat} {vs : List V} (h : WT cfg (d + 3) 28 vs) : ∃ ps : List Pr, vs = [.row (ps.map ePr)] ∧ ps.length ≤ maxLen := by
  obtain ⟨xs, rfl, h1, h2⟩ : ∃ xs, vs = [.row xs] ∧ xs.length ≤ maxLen ∧ ∀ x ∈ xs, ∃ us, WT cfg (d + 2) 24 us ∧ x = packV cfg 24 us := h
  obtain ⟨ps, rfl⟩ := rows_of (f := ePr) (p := fun x => ∃ us, WT cfg (d + 2) 24 us ∧ x = packV cfg 24 us) (fun v hv => by
    obtain ⟨us, h3, rfl⟩ := hv
    obtain ⟨p, rfl⟩ := wt_pr h3
    exact ⟨p, rfl⟩) h2
  exact ⟨ps, rfl, by simpa using h1⟩

set_option maxRecDepth 100000 in
theorem prints_lifted (os : Os) (started : os.Started) (H : Type) (enc : TypeId × Value → H) :
    ReturnsInHanded {} Tryz.checked os 4 .any (fun w args => (Rows.linksPrintsSpec.pre enc Tryz.prog Tryz.f4 [] false w args ∧ laidMetH Tryz.prog laidL w) ∧ sizedMet enc Tryz.prog Tryz.f4 (OpenSpec.ofChange Rows.linksPrintsSpec) false w args)
      (Rows.linksPrintsSpec.post enc Tryz.prog Tryz.f4 false true false false) := by
  refine returnsInHanded_of_change_and (C := Tryz.checked) (X := fun w _ => laidMetH Tryz.prog laidL w) (fun _ _ _ hh h => h.of_heap hh) own started (by kernel_rfl) Tryz.func4
    (ChangeSpec.witness_shaped (enc := enc) (C := Tryz.checked) (os := os) (X := fun w _ => laidMetH Tryz.prog laidL w) false (laidWorld os) #[.slice none 0 0, .agg (Array.replicate 32 (.int .u8 0)), .string ⟨#[]⟩] 8 rfl (laid_shaped os _) (by kernel_rfl) (by kernel_rfl) (by kernel_rfl) (laid_met os _)) ?_
  intro W base args ds gs before hval0 hW _ _ hL _
  have hval : ∀ (j : Nat) t v, Tryz.f4.params[j]? = some t → args[j]? = some v → Value.okWide Tryz.prog W .any base t v := hval0
  have hW' := hW
  obtain ⟨p, q, hA0, hV, rfl, hfz, hnd⟩ := hW
  have hA : DataW.TrodAll enc cfg.P W 0 (fun _ => true) true [28, 24, 9] args.toList ds p := by rw [← show Tryz.f4.params.toList = [28, 24, 9] from by kernel_rfl]; exact hA0
  obtain ⟨vss, s1, s2, s3⟩ := args_ok good 5 hA (by kernel_rfl)
  have hlen := (trod_lens hA).1
  match hargs : args.toList, vss, s1, hlen with
  | [x0, x1, x2], [u0, u1, u2], _, _ =>
    rw [hargs] at s3
    have hget : ∀ (j : Nat) x, args.toList[j]? = some x → args[j]? = some x := fun j x h => by simpa using h
    have r0 := arg_rel (C := cfg) good (t := 28) (d := 5) (by kernel_rfl) (hval 0 28 x0 (by kernel_rfl) (hget 0 _ (by rw [hargs]; rfl))) (s3 0 u0 x0 rfl rfl)
    have r1 := arg_rel (C := cfg) good (t := 24) (d := 5) (by kernel_rfl) (hval 1 24 x1 (by kernel_rfl) (hget 1 _ (by rw [hargs]; rfl))) (s3 1 u1 x1 rfl rfl)
    have r2 := arg_rel (C := cfg) good (t := 9) (d := 5) (by kernel_rfl) (hval 2 9 x2 (by kernel_rfl) (hget 2 _ (by rw [hargs]; rfl))) (s3 2 u2 x2 rfl rfl)
    obtain ⟨ps, rfl, hl⟩ := wt_prs (d := 2) (s2 0 28 u0 rfl rfl).1
    obtain ⟨pp, rfl⟩ := wt_pr (d := 3) (s2 1 24 u1 rfl rfl).1
    obtain ⟨s, rfl, _⟩ := wt_str (d := 4) (s2 2 9 u2 rfl rfl).1
    have hds : ∃ d0 d1 d2, ds = [d0, d1, d2] := by
      have := (trod_lens hA).2
      match ds, this with
      | [d0, d1, d2], _ => exact ⟨d0, d1, d2, rfl⟩
    obtain ⟨d0, d1, d2, rfl⟩ := hds
    obtain ⟨rfl, rfl⟩ := trodVars_none hV
    have hrel : RelL cfg W.cell? [] [.row (ps.map ePr), ePr pp, .str s] args.toList := by
      rw [hargs]
      exact .cons _ _ _ _ r0 (.cons _ _ _ _ r1 (.cons _ _ _ _ r2 .nil))
    refine (law_calls good told (fn := Tryz.f4) rfl (by kernel_rfl) rfl hrel (glob_ok hL) (law_prints ps pp s)).mono fun e W' ⟨he, hb⟩ => ?_
    subst he
    exact ⟨_, rfl, law_post laidOut rfl (by decide) hW' hb rfl rfl rfl (bt := 4) (by kernel_rfl) Tryz.underlying4⟩
end MI.Tryz

