/-
  A part of the proof that the law answers true for every input: LkJ. Conditions: those of each theorem.
-/
import Derived.Test.YtkgpmnghdmcinaaGreatDoorLkH
set_option linter.all false
set_option autoImplicit true
namespace MI.Tryz
open Go Go.Proofs MI
set_option maxRecDepth 100000

theorem notT {b : Bool} (h : (!b) = true) : b = false := by cases b <;> simp_all
theorem notF {b : Bool} (h : (!b) = false) : b = true := by cases b <;> simp_all

theorem prEq_comm (p q : Pr) : prEq p q = prEq q p := by
  unfold prEq
  refine congrArg (fun f => (List.range 32).all f) ?_
  funext i
  exact BEq.comm

/-- Up to a place no one is found, and there one is. -/
theorem any_hit {α : Type} {q : α → Bool} {xs : List α} {i : Nat} (hi : i < xs.length) (h : q xs[i] = true) : xs.any q = true := List.any_eq_true.2 ⟨_, List.getElem_mem hi, h⟩
theorem any_miss {α : Type} {q : α → Bool} {xs : List α} (h : ∀ (j : Nat) (hj : j < xs.length), q xs[j] = false) : xs.any q = false := by
  rw [List.any_eq_false]
  intro x hx
  obtain ⟨j, hj, rfl⟩ := List.getElem_of_mem hx
  simp [h j hj]

/-- waybillref04.Has. -/
theorem ref_has (xs : List Pr) (p : Pr) (σ : Mem) (hl : xs.length ≤ 4611686018427387904) : CallTo cfg 25 [.row (xs.map ePr), ePr p] σ (.bool (xs.any fun q => prEq p q)) σ := by
  refine CallR.walk .head (fn := Tryz.f25) ⟨rfl, rfl, rfl, rfl, rfl, rfl⟩ ?_
  (repeat (first | (refine Runs.step ?_; conv => whnf) | (refine condT ?_) | (refine condF ?_) | (refine chkT ?_) | (refine elemOK rfl ?_)))
  refine LoopR.walkS .head (fun n fr σ => ∃ (i : Nat), n = xs.length - i ∧ (i ≤ xs.length) ∧ (∀ (j : Nat) (h : j < xs.length), j < i → prEq p xs[j] = false) ∧ σ = [⟨prC p, 24, 0, false, false, 0⟩] ∧ matchF [some (.row (xs.map ePr)), none, none, some (.ptr 0 0 0), none, some (.int .i64 i), none, none, none, none, none, none, none, none, none, none, none, none] fr) ?_ ?_
  · exact ⟨_, ⟨0, rfl, by omega, fun j _ hj => absurd hj (by omega), rfl, rfl, rfl, rfl, trivial⟩⟩
  · (rintro n fr σ ⟨i, rfl, h1, h2, rfl, hm⟩; obtain ⟨J, rfl⟩ := matchF_fill hm; clear hm)
    (refine Runs.step ?_; conv => whnf)
    refine ⟨fun h => ?_, fun h => ?_⟩
    · have hlt : i < xs.length := by simpa using h
      ((repeat (first | (refine Runs.step ?_; conv => whnf) | (refine condT ?_) | (refine condF ?_) | (refine chkT ?_) | (refine elemOK rfl ?_))); refine ⟨_, map_get (by simp) hlt, ?_⟩)
      (refine Runs.step ?_; conv => whnf)
      refine ⟨fun h => ?_, fun h => ?_⟩
      · have h : prEq xs[i] p = true := h
        (repeat (first | (refine Runs.step ?_; conv => whnf) | (refine condT ?_) | (refine condF ?_) | (refine chkT ?_) | (refine elemOK rfl ?_)))
        exact ⟨_, rfl, by rw [any_hit hlt (by rw [prEq_comm]; exact h)]; rfl, rfl⟩
      · have h : prEq xs[i] p = false := h
        (repeat (first | (refine Runs.step ?_; conv => whnf) | (refine condT ?_) | (refine condF ?_) | (refine chkT ?_) | (refine elemOK rfl ?_)))
        rw [wrapS i (by omega)]
        refine ⟨_, ?_, ⟨i + 1, rfl, by omega, ?_, rfl, rfl, rfl, rfl, trivial⟩⟩
        · omega
        · intro j hj hji
          by_cases hj' : j = i
          · subst hj'; rw [prEq_comm]; exact h
          · exact h2 j hj (by omega)
    · have hlt : i = xs.length := by have : ¬ i < xs.length := by simpa using h
                                     omega
      (repeat (first | (refine Runs.step ?_; conv => whnf) | (refine condT ?_) | (refine condF ?_) | (refine chkT ?_) | (refine elemOK rfl ?_)))
      exact ⟨_, rfl, by rw [any_miss fun j hj => h2 j hj (by omega)]; rfl, rfl⟩

/-- waybillref02.Same. -/
theorem ref_same (xs : List Bytes) (σ : Mem) (hl : xs.length ≤ 4611686018427387904) : CallTo cfg 11 [.row (xs.map .str), .row (xs.map .str)] σ (.bool true) σ := by
  refine CallR.walk .head (fn := Tryz.f11) ⟨rfl, rfl, rfl, rfl, rfl, rfl⟩ ?_
  (repeat (first | (refine Runs.step ?_; conv => whnf) | (refine condT ?_) | (refine condF ?_) | (refine chkT ?_) | (refine elemOK rfl ?_)))
  refine ⟨fun h => absurd h (by simp), fun _ => ?_⟩
  (repeat (first | (refine Runs.step ?_; conv => whnf) | (refine condT ?_) | (refine condF ?_) | (refine chkT ?_) | (refine elemOK rfl ?_)))
  refine LoopR.walkS .head (fun n fr σ => ∃ (i : Nat), n = xs.length - i ∧ (i ≤ xs.length) ∧ σ = [] ∧ matchF [some (.row (xs.map .str)), some (.row (xs.map .str)), none, none, none, some (.int .i64 i), none, none, none, none, none, none, none, none, none, none, none, none, none, none, none, none, none, none, none, none] fr) ?_ ?_
  · exact ⟨_, ⟨0, rfl, by omega, rfl, rfl, rfl, rfl, trivial⟩⟩
  · (rintro n fr σ ⟨i, rfl, h1, rfl, hm⟩; obtain ⟨J, rfl⟩ := matchF_fill hm; clear hm)
    (refine Runs.step ?_; conv => whnf)
    refine ⟨fun h => ?_, fun h => ?_⟩
    · have hlt : i < xs.length := by simpa using h
      ((repeat (first | (refine Runs.step ?_; conv => whnf) | (refine condT ?_) | (refine condF ?_) | (refine chkT ?_) | (refine elemOK rfl ?_))); refine ⟨_, map_get (by simp) hlt, ?_⟩)
      ((repeat (first | (refine Runs.step ?_; conv => whnf) | (refine condT ?_) | (refine condF ?_) | (refine chkT ?_) | (refine elemOK rfl ?_))); refine ⟨_, map_get (by simp) hlt, ?_⟩)
      (refine Runs.step ?_; conv => whnf)
      refine ⟨fun h => absurd h (by simp), fun _ => ?_⟩
      (repeat (first | (refine Runs.step ?_; conv => whnf) | (refine condT ?_) | (refine condF ?_) | (refine chkT ?_) | (refine elemOK rfl ?_)))
      rw [wrapS i (by omega)]
      refine ⟨_, ?_, ⟨i + 1, rfl, by omega, rfl, rfl, rfl, rfl, trivial⟩⟩
      omega
    · (repeat (first | (refine Runs.step ?_; conv => whnf) | (refine condT ?_) | (refine condF ?_) | (refine chkT ?_) | (refine elemOK rfl ?_)))
      exact ⟨_, rfl, rfl, rfl⟩

/-- waybillref22.Grants. -/
theorem ref_grants (xs : List St) (pkg : Bytes) (p : Pr) (rel : Bytes) (σ : Mem) (hl : xs.length ≤ 4611686018427387904) (hx : ∀ x ∈ xs, stOK x) :
    CallTo cfg 10 [.row (xs.map eSt), .str pkg, ePr p, .str rel] σ (.bool (xs.any (letsB pkg p rel))) σ := by
  refine CallR.walk .head (fn := Tryz.f10) ⟨rfl, rfl, rfl, rfl, rfl, rfl⟩ ?_
  (repeat (first | (refine Runs.step ?_; conv => whnf) | (refine condT ?_) | (refine condF ?_) | (refine chkT ?_) | (refine elemOK rfl ?_)))
  refine LoopR.walkS .head (fun n fr σ => ∃ (i : Nat), n = xs.length - i ∧ (i ≤ xs.length) ∧ (∀ (j : Nat) (h : j < xs.length), j < i → letsB pkg p rel xs[j] = false) ∧ σ = [⟨prC p, 24, 0, false, false, 0⟩] ∧ matchF [some (.row (xs.map eSt)), some (.str pkg), none, some (.str rel), none, none, some (.ptr 0 0 0), none, none, some (.int .i64 i), none, none, none, none, none, none, none, none, none, none, none, none, none, none, none, none, none, none, none, none, none, none, none, none, none, none, none, none, none, none, none, none, none, none, none, none, none, none, none, none, none, none, none, none, none, none, none, none, none, none, none, none] fr) ?_ ?_
  · exact ⟨_, ⟨0, rfl, by omega, fun j _ hj => absurd hj (by omega), rfl, rfl, rfl, rfl, rfl, rfl, trivial⟩⟩
  · (rintro n fr σ ⟨i, rfl, h1, h2, rfl, hm⟩; obtain ⟨J, rfl⟩ := matchF_fill hm; clear hm)
    (refine Runs.step ?_; conv => whnf)
    refine ⟨fun h => ?_, fun h => ?_⟩
    · have hlt : i < xs.length := by simpa using h
      have hs := hx xs[i] (List.getElem_mem hlt)
      ((repeat (first | (refine Runs.step ?_; conv => whnf) | (refine condT ?_) | (refine condF ?_) | (refine chkT ?_) | (refine elemOK rfl ?_))); refine ⟨_, map_get (by simp) hlt, ?_⟩)
      (repeat (first | (refine Runs.step ?_; conv => whnf) | (refine condT ?_) | (refine condF ?_) | (refine chkT ?_) | (refine elemOK rfl ?_)))
      refine ⟨fun hk => ?_, fun hk => ?_⟩
      · (repeat (first | (refine Runs.step ?_; conv => whnf) | (refine condT ?_) | (refine condF ?_) | (refine chkT ?_) | (refine elemOK rfl ?_)))
        rw [wrapS i (by omega)]
        refine ⟨_, ?_, ⟨i + 1, rfl, by omega, ?_, rfl, rfl, rfl, rfl, rfl, rfl, trivial⟩⟩
        · omega
        · intro j hj hji
          by_cases hj' : j = i
          · subst hj'; have hk := notT (b := xs[j].kind == 2) hk; simp only [letsB, hk, Bool.false_and]
          · exact h2 j hj (by omega)
      · have hk := notF (b := xs[i].kind == 2) hk
        ((repeat (first | (refine Runs.step ?_; conv => whnf) | (refine condT ?_) | (refine condF ?_) | (refine chkT ?_) | (refine elemOK rfl ?_))); refine ⟨_, map_get (by simp) hlt, ?_⟩)
        (repeat (first | (refine Runs.step ?_; conv => whnf) | (refine condT ?_) | (refine condF ?_) | (refine chkT ?_) | (refine elemOK rfl ?_)))
        refine ⟨fun hp => ?_, fun hp => ?_⟩
        · (repeat (first | (refine Runs.step ?_; conv => whnf) | (refine condT ?_) | (refine condF ?_) | (refine chkT ?_) | (refine elemOK rfl ?_)))
          rw [wrapS i (by omega)]
          refine ⟨_, ?_, ⟨i + 1, rfl, by omega, ?_, rfl, rfl, rfl, rfl, rfl, rfl, trivial⟩⟩
          · omega
          · intro j hj hji
            by_cases hj' : j = i
            · subst hj'; have hp := notT (b := xs[j].pkg == pkg) hp; simp only [letsB, hp, Bool.and_false, Bool.false_and]
            · exact h2 j hj (by omega)
        · have hp := notF (b := xs[i].pkg == pkg) hp
          ((repeat (first | (refine Runs.step ?_; conv => whnf) | (refine condT ?_) | (refine condF ?_) | (refine chkT ?_) | (refine elemOK rfl ?_))); refine ⟨_, map_get (by simp) hlt, ?_⟩)
          (repeat (first | (refine Runs.step ?_; conv => whnf) | (refine condT ?_) | (refine condF ?_) | (refine chkT ?_) | (refine elemOK rfl ?_)))
          refine (ref_has xs[i].prints p _ hs.2).use ?_
          (repeat (first | (refine Runs.step ?_; conv => whnf) | (refine condT ?_) | (refine condF ?_) | (refine chkT ?_) | (refine elemOK rfl ?_)))
          refine ⟨fun hr => ?_, fun hr => ?_⟩
          · (repeat (first | (refine Runs.step ?_; conv => whnf) | (refine condT ?_) | (refine condF ?_) | (refine chkT ?_) | (refine elemOK rfl ?_)))
            rw [wrapS i (by omega)]
            refine ⟨_, ?_, ⟨i + 1, rfl, by omega, ?_, rfl, rfl, rfl, rfl, rfl, rfl, trivial⟩⟩
            · omega
            · intro j hj hji
              by_cases hj' : j = i
              · subst hj'; have hr := notT hr; simp only [letsB, hr, Bool.and_false]
              · exact h2 j hj (by omega)
          · have hr := notF hr
            (repeat (first | (refine Runs.step ?_; conv => whnf) | (refine condT ?_) | (refine condF ?_) | (refine chkT ?_) | (refine elemOK rfl ?_)))
            refine LoopR.walkS .head (fun n fr σ => ∃ (k : Nat), n = xs[i].rels.length - k ∧ (k ≤ xs[i].rels.length) ∧ (∀ (j : Nat) (h : j < xs[i].rels.length), j < k → (rel == xs[i].rels[j]) = false) ∧ σ = [⟨prC p, 24, 0, false, false, 0⟩] ∧ matchF [some (.row (xs.map eSt)), some (.str pkg), none, some (.str rel), none, none, some (.ptr 0 0 0), none, none, some (.int .i64 i), some (.int .i64 k), none, none, none, none, none, none, none, none, none, none, none, none, none, none, none, none, none, none, none, none, none, none, none, none, none, none, none, none, none, none, none, none, none, none, none, none, none, none, none, none, none, none, none, none, none, none, none, none, none, none, none] fr) ?_ ?_
            · exact ⟨_, ⟨0, rfl, by omega, fun j _ hj => absurd hj (by omega), rfl, rfl, rfl, rfl, rfl, rfl, rfl, trivial⟩⟩
            · (rintro n fr σ ⟨k, rfl, g1, g2, rfl, hm⟩; obtain ⟨J, rfl⟩ := matchF_fill hm; clear hm)
              ((repeat (first | (refine Runs.step ?_; conv => whnf) | (refine condT ?_) | (refine condF ?_) | (refine chkT ?_) | (refine elemOK rfl ?_))); refine ⟨_, map_get (by simp) hlt, ?_⟩)
              (refine Runs.step ?_; conv => whnf)
              refine ⟨fun h => ?_, fun h => ?_⟩
              · have hkt : k < xs[i].rels.length := by simpa using h
                ((repeat (first | (refine Runs.step ?_; conv => whnf) | (refine condT ?_) | (refine condF ?_) | (refine chkT ?_) | (refine elemOK rfl ?_))); refine ⟨_, map_get (by simp) hlt, ?_⟩)
                ((repeat (first | (refine Runs.step ?_; conv => whnf) | (refine condT ?_) | (refine condF ?_) | (refine chkT ?_) | (refine elemOK rfl ?_))); refine ⟨_, map_get (by simp) hkt, ?_⟩)
                (refine Runs.step ?_; conv => whnf)
                refine ⟨fun he => ?_, fun he => ?_⟩
                · have he : (xs[i].rels[k] == rel) = true := he
                  (repeat (first | (refine Runs.step ?_; conv => whnf) | (refine condT ?_) | (refine condF ?_) | (refine chkT ?_) | (refine elemOK rfl ?_)))
                  refine ⟨_, rfl, ?_, rfl⟩
                  rw [any_hit hlt (by simp only [letsB, hk, hp, hr, Bool.and_true, Bool.true_and]; exact any_hit hkt (by rw [BEq.comm]; exact he))]; rfl
                · have he : (xs[i].rels[k] == rel) = false := he
                  (repeat (first | (refine Runs.step ?_; conv => whnf) | (refine condT ?_) | (refine condF ?_) | (refine chkT ?_) | (refine elemOK rfl ?_)))
                  rw [wrapS k (by have := hs.1; omega)]
                  refine ⟨_, ?_, ⟨k + 1, rfl, by omega, ?_, rfl, rfl, rfl, rfl, rfl, rfl, rfl, trivial⟩⟩
                  · omega
                  · intro j hj hji
                    by_cases hj' : j = k
                    · subst hj'; rw [BEq.comm]; exact he
                    · exact g2 j hj (by omega)
              · have hkt : k = xs[i].rels.length := by have : ¬ k < xs[i].rels.length := by simpa using h
                                                       omega
                (repeat (first | (refine Runs.step ?_; conv => whnf) | (refine condT ?_) | (refine condF ?_) | (refine chkT ?_) | (refine elemOK rfl ?_)))
                rw [wrapS i (by omega)]
                refine ⟨_, ?_, ⟨i + 1, rfl, by omega, ?_, rfl, rfl, rfl, rfl, rfl, rfl, trivial⟩⟩
                · omega
                · intro j hj hji
                  by_cases hj' : j = i
                  · subst hj'
                    have : (xs[j].rels.any fun r => rel == r) = false := any_miss fun m hm => g2 m hm (by omega)
                    simp only [letsB, this, Bool.and_false, Bool.false_and]
                  · exact h2 j hj (by omega)
    · have hlt : i = xs.length := by have : ¬ i < xs.length := by simpa using h
                                     omega
      (repeat (first | (refine Runs.step ?_; conv => whnf) | (refine condT ?_) | (refine condF ?_) | (refine chkT ?_) | (refine elemOK rfl ?_)))
      exact ⟨_, rfl, by rw [any_miss fun j hj => h2 j hj (by omega)]; rfl, rfl⟩

end MI.Tryz

