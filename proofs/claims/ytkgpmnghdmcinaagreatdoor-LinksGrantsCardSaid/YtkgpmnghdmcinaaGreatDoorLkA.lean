/-
  A part of the proof that the law answers true for every input: LkA. Conditions: those of each theorem.
-/
import Derived.Test.YtkgpmnghdmcinaaGreatDoorCfgL
import Derived.Test.YtkgpmnghdmcinaaGreatDoorCoreC
import Derived.IntWalk
set_option linter.all false
set_option autoImplicit true
namespace MI.Tryz
open Go Go.Proofs MI
set_option maxRecDepth 100000

abbrev Bytes := List UInt8

theorem wrapS (i : Nat) (h : i < 9223372036854775807) : IntKind.i64.wrap ((i : Int) + 1) = ((i + 1 : Nat) : Int) := by
  rw [IntWalk.i64_in _ (by omega)]; omega

/-- The place of the first one of a kind. -/
def pos {α : Type} (p : α → Bool) (xs : List α) : Int := match xs.findIdx? p with
  | some i => i
  | none => -1

theorem pos_found {α : Type} {p : α → Bool} {xs : List α} {i : Nat} (hi : i < xs.length) (hp : p xs[i] = true) (hb : ∀ (j : Nat) (h : j < xs.length), j < i → p xs[j] = false) : pos p xs = i := by
  have : xs.findIdx? p = some i := by
    rw [List.findIdx?_eq_some_iff_getElem]
    exact ⟨hi, hp, fun j hj => by simp [hb j (by omega) hj]⟩
  simp [pos, this]

theorem pos_none {α : Type} {p : α → Bool} {xs : List α} (hb : ∀ (j : Nat) (h : j < xs.length), p xs[j] = false) : pos p xs = -1 := by
  have : xs.findIdx? p = none := by
    rw [List.findIdx?_eq_none_iff]
    intro x hx
    obtain ⟨j, hj, rfl⟩ := List.getElem_of_mem hx
    exact hb j hj
  simp [pos, this]

theorem pos_ge {α : Type} (p : α → Bool) (xs : List α) : decide (pos p xs ≥ 0) = xs.any p := by
  unfold pos
  cases h : xs.findIdx? p with
  | none =>
    rw [List.findIdx?_eq_none_iff] at h
    have : xs.any p = false := by rw [List.any_eq_false]; intro x hx; simp [h x hx]
    rw [this]; rfl
  | some i =>
    rw [List.findIdx?_eq_some_iff_getElem] at h
    obtain ⟨hi, hp, _⟩ := h
    have : xs.any p = true := List.any_eq_true.2 ⟨xs[i], List.getElem_mem hi, hp⟩
    rw [this]; simp

theorem map_get {α : Type} {f : α → V} {xs : List α} {n : Nat} {i : Nat} (hn : n = i) (hi : i < xs.length) : (xs.map f)[n]? = some (f xs[i]) := by
  subst hn; simp [hi]

/-- slices.Index over texts. -/
theorem index_str (xs : List Bytes) (s : Bytes) (σ : Mem) (hl : xs.length ≤ 4611686018427387904) : CallTo cfg 41 [.row (xs.map .str), .str s] σ (.int .i64 (pos (fun x => s == x) xs)) σ := by
  refine CallR.walk .head (fn := Tryz.f41) ⟨rfl, rfl, rfl, rfl, rfl, rfl⟩ ?_
  (refine Runs.step ?_; conv => whnf)
  refine LoopR.walkS .head (fun n fr σ => ∃ (i : Nat), n = xs.length - i ∧ (i ≤ xs.length) ∧ (∀ (j : Nat) (h : j < xs.length), j < i → (s == xs[j]) = false) ∧ σ = [] ∧ matchF [some (.row (xs.map .str)), some (.str s), none, none, none, none, some (.row (xs.map .str)), some (.int .i64 (xs.map V.str).length), some (.int .i64 i), none, none, none, none, none, none, none, none, none, none] fr) ?_ ?_
  · exact ⟨_, ⟨0, rfl, by omega, fun j _ hj => absurd hj (by omega), rfl, rfl, rfl, rfl, rfl, rfl, trivial⟩⟩
  · (rintro n fr σ ⟨i, rfl, h1, h2, rfl, hm⟩; obtain ⟨J, rfl⟩ := matchF_fill hm; clear hm)
    (refine Runs.step ?_; conv => whnf)
    refine ⟨fun h => ?_, fun h => ?_⟩
    · have hlt : i < xs.length := by simpa using h
      (refine Runs.step ?_; conv => whnf)
      refine ⟨by simp, ?_⟩
      (refine Runs.step ?_; conv => whnf)
      refine ⟨_, map_get (by simp) hlt, ?_⟩
      (refine Runs.step ?_; conv => whnf)
      refine ⟨fun h => ?_, fun h => ?_⟩
      · (repeat (first | (refine Runs.step ?_; conv => whnf) | (refine condT ?_) | (refine condF ?_) | (refine chkT ?_) | (refine elemOK rfl ?_)))
        exact ⟨_, rfl, by rw [pos_found hlt h h2]; rfl, rfl⟩
      · (repeat (first | (refine Runs.step ?_; conv => whnf) | (refine condT ?_) | (refine condF ?_) | (refine chkT ?_) | (refine elemOK rfl ?_)))
        rw [wrapS i (by omega)]
        refine ⟨_, ?_, ⟨i + 1, rfl, by omega, ?_, rfl, rfl, rfl, rfl, rfl, rfl, trivial⟩⟩
        · omega
        · intro j hj hji
          by_cases hj' : j = i
          · subst hj'; exact h
          · exact h2 j hj (by omega)
    · have hlt : i = xs.length := by have : ¬ i < xs.length := by simpa using h
                                     omega
      (repeat (first | (refine Runs.step ?_; conv => whnf) | (refine condT ?_) | (refine condF ?_) | (refine chkT ?_) | (refine elemOK rfl ?_)))
      exact ⟨_, rfl, by rw [pos_none fun j hj => h2 j hj (by omega)]; rfl, rfl⟩
end MI.Tryz

