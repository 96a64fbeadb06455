/-
  A part of the proof that the law answers true for every input: LkH. Conditions: those of each theorem.
-/
import Derived.Test.YtkgpmnghdmcinaaGreatDoorLkD
set_option linter.all false
set_option autoImplicit true
namespace MI.Tryz
open Go Go.Proofs MI
set_option maxRecDepth 100000

/-- A statement that is not too great. -/
structure Small (x : St) : Prop where
  rels : x.rels.length ≤ 40
  prints : x.prints.length ≤ 20
  pkg : x.pkg.length ≤ 300
  site : x.site.length ≤ 1000
  each : ∀ (j : Nat) (h : j < x.rels.length), x.rels[j].length ≤ 300

def SmallL (l : List St) : Prop := l.length ≤ 60 ∧ ∀ x ∈ l, Small x

theorem great (l : List St) (σ : Mem) : CallR cfg 8 [.row (l.map eSt)] σ fun v s => s = σ ∧ ∃ b, v = .bool b ∧ (b = false → SmallL l) := by
  refine CallR.walk .head (fn := Tryz.f8) ⟨rfl, rfl, rfl, rfl, rfl, rfl⟩ ?_
  (refine Runs.step ?_; conv => whnf)
  refine ⟨fun h => ?_, fun h => ?_⟩
  · (repeat (first | (refine Runs.step ?_; conv => whnf) | (refine condT ?_) | (refine condF ?_) | (refine chkT ?_) | (refine elemOK rfl ?_)))
    exact ⟨_, rfl, rfl, true, rfl, fun h => by cases h⟩
  · have hl60 : l.length ≤ 60 := by have := of_decide_eq_false h; simp at this; omega
    (repeat (first | (refine Runs.step ?_; conv => whnf) | (refine condT ?_) | (refine condF ?_) | (refine chkT ?_) | (refine elemOK rfl ?_)))
    refine LoopR.walkS .head (fun n fr σ => ∃ (i : Nat), n = l.length - i ∧ (i ≤ l.length) ∧ (∀ (j : Nat) (h : j < l.length), j < i → Small l[j]) ∧ σ = [] ∧ matchF [none, none, none, none, none, none, none, none, none, none, some (.row (l.map eSt)), some (.int .i64 (l.map eSt).length), some (.int .i64 i), none, none, none, none, none, none, none, none, none, none, none, none, none, none, none, none, none, none, none, none, none, none, none, none, none, none, none, none, none, none, none, none, none, none, none, none, none] fr) ?_ ?_
    · exact ⟨_, ⟨0, rfl, by omega, fun j _ hj => absurd hj (by omega), rfl, rfl, rfl, rfl, trivial⟩⟩
    · (rintro n fr σ ⟨i, rfl, h1, h2, rfl, hm⟩; obtain ⟨J, rfl⟩ := matchF_fill hm; clear hm)
      (refine Runs.step ?_; conv => whnf)
      refine ⟨fun h => ?_, fun h => ?_⟩
      · have hlt : i < l.length := by simpa using h
        (refine Runs.step ?_; conv => whnf)
        refine ⟨by simp, ?_⟩
        (refine Runs.step ?_; conv => whnf)
        refine ⟨_, map_get (by simp) hlt, ?_⟩
        (repeat (first | (refine Runs.step ?_; conv => whnf) | (refine condT ?_) | (refine condF ?_) | (refine chkT ?_) | (refine elemOK rfl ?_)))
        refine ⟨fun ha => ?_, fun ha => ?_⟩
        · (repeat (first | (refine Runs.step ?_; conv => whnf) | (refine condT ?_) | (refine condF ?_) | (refine chkT ?_) | (refine elemOK rfl ?_)))
          exact ⟨_, rfl, rfl, true, rfl, fun h => by cases h⟩
        · (repeat (first | (refine Runs.step ?_; conv => whnf) | (refine condT ?_) | (refine condF ?_) | (refine chkT ?_) | (refine elemOK rfl ?_)))
          refine ⟨fun hb => ?_, fun hb => ?_⟩
          · (repeat (first | (refine Runs.step ?_; conv => whnf) | (refine condT ?_) | (refine condF ?_) | (refine chkT ?_) | (refine elemOK rfl ?_)))
            exact ⟨_, rfl, rfl, true, rfl, fun h => by cases h⟩
          · (repeat (first | (refine Runs.step ?_; conv => whnf) | (refine condT ?_) | (refine condF ?_) | (refine chkT ?_) | (refine elemOK rfl ?_)))
            refine ⟨fun hc => ?_, fun hc => ?_⟩
            · (repeat (first | (refine Runs.step ?_; conv => whnf) | (refine condT ?_) | (refine condF ?_) | (refine chkT ?_) | (refine elemOK rfl ?_)))
              exact ⟨_, rfl, rfl, true, rfl, fun h => by cases h⟩
            · (repeat (first | (refine Runs.step ?_; conv => whnf) | (refine condT ?_) | (refine condF ?_) | (refine chkT ?_) | (refine elemOK rfl ?_)))
              refine ⟨fun hd => ?_, fun hd => ?_⟩
              · (repeat (first | (refine Runs.step ?_; conv => whnf) | (refine condT ?_) | (refine condF ?_) | (refine chkT ?_) | (refine elemOK rfl ?_)))
                exact ⟨_, rfl, rfl, true, rfl, fun h => by cases h⟩
              · (repeat (first | (refine Runs.step ?_; conv => whnf) | (refine condT ?_) | (refine condF ?_) | (refine chkT ?_) | (refine elemOK rfl ?_)))
                refine LoopR.walkS .head (fun n fr σ => ∃ (k : Nat), n = l[i].rels.length - k ∧ (k ≤ l[i].rels.length) ∧ (∀ (j : Nat) (h : j < l[i].rels.length), j < k → l[i].rels[j].length ≤ 300) ∧ σ = [⟨[.int .i64 l[i].kind, .row (l[i].rels.map .str), .str l[i].pkg, .row (l[i].prints.map ePr), .str l[i].site], 30, 0, false, false, 0⟩] ∧ matchF [none, none, none, none, none, none, none, none, none, none, some (.row (l.map eSt)), some (.int .i64 (l.map eSt).length), some (.int .i64 i), none, none, none, none, none, none, none, none, none, none, none, none, none, none, none, none, none, none, none, none, none, none, none, none, none, none, some (.row (l[i].rels.map .str)), some (.int .i64 (l[i].rels.map V.str).length), some (.int .i64 k), none, none, none, none, none, none, none, none] fr) ?_ ?_
                · exact ⟨_, ⟨0, rfl, by omega, fun j _ hj => absurd hj (by omega), rfl, rfl, rfl, rfl, rfl, rfl, rfl, trivial⟩⟩
                · (rintro n fr σ ⟨k, rfl, g1, g2, rfl, hm⟩; obtain ⟨J, rfl⟩ := matchF_fill hm; clear hm)
                  (refine Runs.step ?_; conv => whnf)
                  refine ⟨fun h => ?_, fun h => ?_⟩
                  · have hkt : k < l[i].rels.length := by simpa using h
                    (refine Runs.step ?_; conv => whnf)
                    refine ⟨by simp, ?_⟩
                    (refine Runs.step ?_; conv => whnf)
                    refine ⟨_, map_get (by simp) hkt, ?_⟩
                    (refine Runs.step ?_; conv => whnf)
                    refine ⟨fun he => ?_, fun he => ?_⟩
                    · (repeat (first | (refine Runs.step ?_; conv => whnf) | (refine condT ?_) | (refine condF ?_) | (refine chkT ?_) | (refine elemOK rfl ?_)))
                      exact ⟨_, rfl, rfl, true, rfl, fun h => by cases h⟩
                    · (repeat (first | (refine Runs.step ?_; conv => whnf) | (refine condT ?_) | (refine condF ?_) | (refine chkT ?_) | (refine elemOK rfl ?_)))
                      have hr : l[i].rels.length ≤ 40 := by have := of_decide_eq_false ha; simp at this; omega
                      rw [wrapS k (by omega)]
                      refine ⟨_, ?_, ⟨k + 1, rfl, by omega, ?_, rfl, rfl, rfl, rfl, rfl, rfl, rfl, trivial⟩⟩
                      · omega
                      · intro j hj hji
                        by_cases hj' : j = k
                        · subst hj'; have := of_decide_eq_false he; omega
                        · exact g2 j hj (by omega)
                  · have hkt : k = l[i].rels.length := by have : ¬ k < l[i].rels.length := by simpa using h
                                                          omega
                    (repeat (first | (refine Runs.step ?_; conv => whnf) | (refine condT ?_) | (refine condF ?_) | (refine chkT ?_) | (refine elemOK rfl ?_)))
                    rw [wrapS i (by omega)]
                    refine ⟨_, ?_, ⟨i + 1, rfl, by omega, ?_, rfl, rfl, rfl, rfl, trivial⟩⟩
                    · omega
                    · intro j hj hji
                      by_cases hj' : j = i
                      · subst hj'
                        refine ⟨?_, ?_, ?_, ?_, fun m hm => g2 m hm (by omega)⟩
                        · have := of_decide_eq_false ha; simp at this; omega
                        · have := of_decide_eq_false hb; simp at this; omega
                        · have := of_decide_eq_false hc; omega
                        · have := of_decide_eq_false hd; omega
                      · exact h2 j hj (by omega)
      · have hlt : i = l.length := by have : ¬ i < l.length := by simpa using h
                                      omega
        (repeat (first | (refine Runs.step ?_; conv => whnf) | (refine condT ?_) | (refine condF ?_) | (refine chkT ?_) | (refine elemOK rfl ?_)))
        refine ⟨_, rfl, rfl, false, rfl, fun _ => ⟨hl60, fun x hx => ?_⟩⟩
        obtain ⟨j, hj, rfl⟩ := List.getElem_of_mem hx
        exact h2 j hj (by omega)
end MI.Tryz

