/-
  A part of the proof that the law answers true for every input: LkC. Conditions: those of each theorem.
-/
import Derived.Test.YtkgpmnghdmcinaaGreatDoorLkB
set_option linter.all false
set_option autoImplicit true
namespace MI.Tryz
open Go Go.Proofs MI
set_option maxRecDepth 100000

/-- Lists that are not too long to be counted. -/
def stOK (x : St) : Prop := x.rels.length ≤ 4611686018427387904 ∧ x.prints.length ≤ 4611686018427387904

theorem indexFunc (xs : List St) (pkg : Bytes) (p : Pr) (rel : Bytes) (hl : xs.length ≤ 4611686018427387904) (hx : ∀ x ∈ xs, stOK x) :
    CallTo cfg 40 [.row (xs.map eSt), .func (.func 22) [] [.ptr 0 0 0, .ptr 2 0 0, .ptr 1 0 0]] (memG pkg p rel) (.int .i64 (pos (letsB pkg p rel) xs)) (memG pkg p rel) := by
  refine CallR.walkM .head (fn := Tryz.f40) ⟨rfl, rfl, rfl, rfl, rfl, rfl⟩ ?_
  (refine Runs.step ?_; conv => whnf)
  refine LoopR.walkS .head (fun n fr σ => ∃ (i : Nat), n = xs.length - i ∧ (i ≤ xs.length) ∧ (∀ (j : Nat) (h : j < xs.length), j < i → letsB pkg p rel xs[j] = false) ∧ σ = memG pkg p rel ∧ matchF [some (.row (xs.map eSt)), some (.func (.func 22) [] [.ptr 0 0 0, .ptr 2 0 0, .ptr 1 0 0]), none, none, none, none, some (.row (xs.map eSt)), some (.int .i64 (xs.map eSt).length), some (.int .i64 i), none, none, none, none, none, none, none, none, none, none] fr) ?_ ?_
  · exact ⟨_, ⟨0, rfl, by omega, fun j _ hj => absurd hj (by omega), rfl, rfl, rfl, rfl, rfl, rfl, trivial⟩⟩
  · (rintro n fr σ ⟨i, rfl, h1, h2, rfl, hm⟩; obtain ⟨J, rfl⟩ := matchF_fill hm; clear hm)
    (refine Runs.step ?_; conv => whnf)
    refine ⟨fun h => ?_, fun h => ?_⟩
    · have hlt : i < xs.length := by simpa using h
      (refine Runs.step ?_; conv => whnf)
      refine ⟨by simp, ?_⟩
      (refine Runs.step ?_; conv => whnf)
      refine ⟨_, map_get (by simp) hlt, ?_⟩
      (refine Runs.step ?_; conv => whnf)
      have hs := hx xs[i] (List.getElem_mem hlt)
      refine (grants1 xs[i] pkg p rel hs.1 hs.2).use ?_
      (refine Runs.step ?_; conv => whnf)
      refine ⟨fun h => ?_, fun h => ?_⟩
      · (repeat (first | (refine Runs.step ?_; conv => whnf) | (refine condT ?_) | (refine condF ?_) | (refine chkT ?_) | (refine elemOK rfl ?_)))
        exact ⟨_, rfl, by rw [pos_found hlt h h2]; rfl, rfl⟩
      · (repeat (first | (refine Runs.step ?_; conv => whnf) | (refine condT ?_) | (refine condF ?_) | (refine chkT ?_) | (refine elemOK rfl ?_)))
        rw [wrapS i (by omega)]
        refine ⟨_, ?_, ⟨i + 1, rfl, by omega, ?_, rfl, rfl, rfl, rfl, rfl, rfl, trivial⟩⟩
        · omega
        · intro j hj hji
          by_cases hj' : j = i
          · subst hj'; exact h
          · exact h2 j hj (by omega)
    · have hlt : i = xs.length := by have : ¬ i < xs.length := by simpa using h
                                     omega
      (repeat (first | (refine Runs.step ?_; conv => whnf) | (refine condT ?_) | (refine condF ?_) | (refine chkT ?_) | (refine elemOK rfl ?_)))
      exact ⟨_, rfl, by rw [pos_none fun j hj => h2 j hj (by omega)]; rfl, rfl⟩

theorem containsFunc (xs : List St) (pkg : Bytes) (p : Pr) (rel : Bytes) (hl : xs.length ≤ 4611686018427387904) (hx : ∀ x ∈ xs, stOK x) :
    CallTo cfg 21 [.row (xs.map eSt), .func (.func 22) [] [.ptr 0 0 0, .ptr 2 0 0, .ptr 1 0 0]] (memG pkg p rel) (.bool (xs.any (letsB pkg p rel))) (memG pkg p rel) := by
  refine CallR.walkM .head (fn := Tryz.f21) ⟨rfl, rfl, rfl, rfl, rfl, rfl⟩ ?_
  (refine Runs.step ?_; conv => whnf)
  refine (indexFunc xs pkg p rel hl hx).use ?_
  (repeat (first | (refine Runs.step ?_; conv => whnf) | (refine condT ?_) | (refine condF ?_) | (refine chkT ?_) | (refine elemOK rfl ?_)))
  exact ⟨_, rfl, by rw [← pos_ge]; rfl, rfl⟩

/-- links.Grants. -/
theorem grants (xs : List St) (pkg : Bytes) (p : Pr) (rel : Bytes) (σ : Mem) (hl : xs.length ≤ 4611686018427387904) (hx : ∀ x ∈ xs, stOK x) :
    CallTo cfg 9 [.row (xs.map eSt), .str pkg, ePr p, .str rel] σ (.bool (xs.any (letsB pkg p rel))) σ := by
  refine CallR.walk .head (fn := Tryz.f9) ⟨rfl, rfl, rfl, rfl, rfl, rfl⟩ ?_
  (refine Runs.step ?_; conv => whnf)
  refine (containsFunc xs pkg p rel hl hx).use ?_
  (repeat (first | (refine Runs.step ?_; conv => whnf) | (refine condT ?_) | (refine condF ?_) | (refine chkT ?_) | (refine elemOK rfl ?_)))
  exact ⟨_, rfl, rfl, rfl⟩
end MI.Tryz

