/-
  A part of the proof that the law answers true for every input: LkW. Conditions: those of each theorem.
-/
import Derived.Test.YtkgpmnghdmcinaaGreatDoorLkE
import Derived.Test.YtkgpmnghdmcinaaGreatDoorLkD
set_option linter.all false
set_option autoImplicit true
namespace MI.Tryz
open Go Go.Proofs Go.Proofs.YtkgpmnghdmcinaaGreatDoor MI Go.ChangeShapes Go.WideShapes Go.ChangeAt Go.RowKit
set_option maxRecDepth 100000

theorem wt_u8 {d : Nat} {vs : List V} (h : WT cfg (d + 1) 5 vs) : ∃ b : UInt8, vs = [byteV b] := by
  obtain ⟨n, rfl, h1, h2⟩ : ∃ n, vs = [.int .u8 n] ∧ IntKind.u8.min ≤ n ∧ n ≤ IntKind.u8.max := h
  have h1 : 0 ≤ n := h1
  have h2 : n ≤ 255 := h2
  refine ⟨UInt8.ofNat n.toNat, ?_⟩
  have : n.toNat < 256 := by omega
  simp only [byteV]
  congr 2
  simp [UInt8.toNat_ofNat', Nat.mod_eq_of_lt this]
  omega

theorem wt_pr {d : Nat} {vs : List V} (h : WT cfg (d + 2) 24 vs) : ∃ p : Pr, vs = prC p := by
  have h : WTA (WT cfg (d + 1) 5) 32 vs := h
  obtain ⟨q, rfl⟩ := wta_bytes (fun vs h => wt_u8 h) 32 h
  exact ⟨q, rfl⟩

theorem wt_int {d : Nat} {vs : List V} (h : WT cfg (d + 1) 3 vs) : ∃ n : Int, vs = [.int .i64 n] ∧ -9223372036854775808 ≤ n ∧ n ≤ 9223372036854775807 := h

theorem wt_str {d : Nat} {vs : List V} (h : WT cfg (d + 1) 9 vs) : ∃ s : Bytes, vs = [.str s] ∧ s.length ≤ maxLen := h

theorem wt_prs {d : Nat} {vs : List V} (h : WT cfg (d + 3) 28 vs) : ∃ ps : List Pr, vs = [.row (ps.map ePr)] ∧ ps.length ≤ maxLen := by
  obtain ⟨xs, rfl, h1, h2⟩ : ∃ xs, vs = [.row xs] ∧ xs.length ≤ maxLen ∧ ∀ x ∈ xs, ∃ us, WT cfg (d + 2) 24 us ∧ x = packV cfg 24 us := h
  obtain ⟨ps, rfl⟩ := rows_of (f := ePr) (p := fun x => ∃ us, WT cfg (d + 2) 24 us ∧ x = packV cfg 24 us) (fun v hv => by
    obtain ⟨us, h3, rfl⟩ := hv
    obtain ⟨p, rfl⟩ := wt_pr h3
    exact ⟨p, rfl⟩) h2
  exact ⟨ps, rfl, by simpa using h1⟩

theorem wt_strs {d : Nat} {vs : List V} (h : WT cfg (d + 2) 27 vs) : ∃ ps : List Bytes, vs = [.row (ps.map .str)] ∧ ps.length ≤ maxLen := by
  obtain ⟨xs, rfl, h1, h2⟩ : ∃ xs, vs = [.row xs] ∧ xs.length ≤ maxLen ∧ ∀ x ∈ xs, ∃ us, WT cfg (d + 1) 9 us ∧ x = packV cfg 9 us := h
  obtain ⟨ps, rfl⟩ := rows_of (f := V.str) (p := fun x => ∃ us, WT cfg (d + 1) 9 us ∧ x = packV cfg 9 us) (fun v hv => by
    obtain ⟨us, h3, rfl⟩ := hv
    obtain ⟨p, rfl, _⟩ := wt_str h3
    exact ⟨p, rfl⟩) h2
  exact ⟨ps, rfl, by simpa using h1⟩

theorem wt_st {d : Nat} {vs : List V} (h : WT cfg (d + 4) 30 vs) : ∃ x : St, packV cfg 30 vs = eSt x := by
  obtain ⟨a1, r1, rfl, h1, a2, r2, rfl, h2, a3, r3, rfl, h3, a4, r4, rfl, h4, a5, r5, rfl, h5, rfl⟩ : WTF (WT cfg (d + 3)) _ vs := h
  obtain ⟨n, rfl, _⟩ := wt_int (d := d + 2) h1
  obtain ⟨rels, rfl, _⟩ := wt_strs (d := d + 1) h2
  obtain ⟨pkg, rfl, _⟩ := wt_str (d := d + 2) h3
  obtain ⟨ps, rfl, _⟩ := wt_prs (d := d) h4
  obtain ⟨site, rfl, _⟩ := wt_str (d := d + 2) h5
  exact ⟨⟨n, rels, pkg, ps, site⟩, rfl⟩

theorem wt_sts {d : Nat} {vs : List V} (h : WT cfg (d + 5) 22 vs) : ∃ l : List St, vs = [.row (l.map eSt)] ∧ l.length ≤ maxLen := by
  obtain ⟨xs, rfl, h1, h2⟩ : ∃ xs, vs = [.row xs] ∧ xs.length ≤ maxLen ∧ ∀ x ∈ xs, ∃ us, WT cfg (d + 4) 30 us ∧ x = packV cfg 30 us := h
  obtain ⟨ps, rfl⟩ := rows_of (f := eSt) (p := fun x => ∃ us, WT cfg (d + 4) 30 us ∧ x = packV cfg 30 us) (fun v hv => by
    obtain ⟨us, h3, rfl⟩ := hv
    exact wt_st h3) h2
  exact ⟨ps, rfl, by simpa using h1⟩
end MI.Tryz

