/-
  A part of the proof that the law answers true for every input: LkP. Conditions: those of each theorem.
-/
import Derived.Test.YtkgpmnghdmcinaaGreatDoorLkN
set_option linter.all false
set_option autoImplicit true
namespace MI.Tryz
open Go Go.Proofs MI
set_option maxRecDepth 100000

theorem law_grants (l : List St) (pkg : Bytes) (p : Pr) (rel : Bytes) : CallTo cfg 5 [.row (l.map eSt), .str pkg, ePr p, .str rel] [] (.bool true) [] := by
  refine CallR.walk .head (fn := Tryz.f5) ⟨rfl, rfl, rfl, rfl, rfl, rfl⟩ ?_
  (repeat (first | (refine Runs.step ?_; conv => whnf) | (refine condT ?_) | (refine condF ?_) | (refine chkT ?_) | (refine elemOK rfl ?_)))
  refine (speaks _).use ?_
  (repeat (first | (refine Runs.step ?_; conv => whnf) | (refine condT ?_) | (refine condF ?_) | (refine chkT ?_) | (refine elemOK rfl ?_)))
  refine (great l _).mono ?_
  rintro v s ⟨rfl, b1, rfl, hs1⟩
  (repeat (first | (refine Runs.step ?_; conv => whnf) | (refine condT ?_) | (refine condF ?_) | (refine chkT ?_) | (refine elemOK rfl ?_)))
  refine ⟨fun ha => ?_, fun ha => ?_⟩
  · (repeat (first | (refine Runs.step ?_; conv => whnf) | (refine condT ?_) | (refine condF ?_) | (refine chkT ?_) | (refine elemOK rfl ?_)))
    exact ⟨_, rfl, rfl, rfl⟩
  · have hs1 := hs1 ha
    (repeat (first | (refine Runs.step ?_; conv => whnf) | (refine condT ?_) | (refine condF ?_) | (refine chkT ?_) | (refine elemOK rfl ?_)))
    refine ⟨fun hc => ?_, fun hc => ?_⟩
    · (repeat (first | (refine Runs.step ?_; conv => whnf) | (refine condT ?_) | (refine condF ?_) | (refine chkT ?_) | (refine elemOK rfl ?_)))
      exact ⟨_, rfl, rfl, rfl⟩
    · (repeat (first | (refine Runs.step ?_; conv => whnf) | (refine condT ?_) | (refine condF ?_) | (refine chkT ?_) | (refine elemOK rfl ?_)))
      refine ⟨fun hd => ?_, fun hd => ?_⟩
      · (repeat (first | (refine Runs.step ?_; conv => whnf) | (refine condT ?_) | (refine condF ?_) | (refine chkT ?_) | (refine elemOK rfl ?_)))
        exact ⟨_, rfl, rfl, rfl⟩
      · have hrel : rel.length ≤ 300 := by have := of_decide_eq_false hd; omega
        have hl := hs1.1
        have g1 := fun σ => grants l pkg p rel σ (by omega) hs1.ok
        have g2 := fun σ => ref_grants l pkg p rel σ (by omega) hs1.ok
        have g3 := fun σ => includes l σ hl
        have g4 := fun σ => ref_includes l σ hl
        have g5 := fun σ => ref_same (incs l) σ (by have := incs_len l; omega)
        have g6 := fun σ => relation rel σ hrel
        have g7 := fun σ => ref_relation rel σ hrel
        generalize l.any (letsB pkg p rel) = A at g1 g2
        generalize incs l = I at g3 g4 g5
        generalize relB rel = R at g6 g7
        cases A <;> cases R
        all_goals
          (repeat (first | (refine Runs.step ?_; conv => whnf) | (refine condT ?_) | (refine condF ?_) | (refine chkT ?_) | (refine elemOK rfl ?_)))
          refine (g1 _).use ?_
          (repeat (first | (refine Runs.step ?_; conv => whnf) | (refine condT ?_) | (refine condF ?_) | (refine chkT ?_) | (refine elemOK rfl ?_)))
          refine (g2 _).use ?_
          (repeat (first | (refine Runs.step ?_; conv => whnf) | (refine condT ?_) | (refine condF ?_) | (refine chkT ?_) | (refine elemOK rfl ?_)))
          refine (g3 _).use ?_
          (repeat (first | (refine Runs.step ?_; conv => whnf) | (refine condT ?_) | (refine condF ?_) | (refine chkT ?_) | (refine elemOK rfl ?_)))
          refine (g4 _).use ?_
          (repeat (first | (refine Runs.step ?_; conv => whnf) | (refine condT ?_) | (refine condF ?_) | (refine chkT ?_) | (refine elemOK rfl ?_)))
          refine (g5 _).use ?_
          (repeat (first | (refine Runs.step ?_; conv => whnf) | (refine condT ?_) | (refine condF ?_) | (refine chkT ?_) | (refine elemOK rfl ?_)))
          refine (g6 _).use ?_
          (repeat (first | (refine Runs.step ?_; conv => whnf) | (refine condT ?_) | (refine condF ?_) | (refine chkT ?_) | (refine elemOK rfl ?_)))
          refine (g7 _).use ?_
          (repeat (first | (refine Runs.step ?_; conv => whnf) | (refine condT ?_) | (refine condF ?_) | (refine chkT ?_) | (refine elemOK rfl ?_)))
          exact ⟨_, rfl, rfl, rfl⟩
end MI.Tryz

