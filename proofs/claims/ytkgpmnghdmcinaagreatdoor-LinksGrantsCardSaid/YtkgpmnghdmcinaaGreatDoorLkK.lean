/-
  A part of the proof that the law answers true for every input: LkK. Conditions: those of each theorem.
-/
import Derived.Test.YtkgpmnghdmcinaaGreatDoorLkJ
import Derived.Test.YtkgpmnghdmcinaaGreatDoorLkI
set_option linter.all false
set_option autoImplicit true
namespace MI.Tryz
open Go Go.Proofs MI
set_option maxRecDepth 100000

/-- What links.Includes keeps: each site of kind 1 once. -/
def inc (acc : List Bytes) (x : St) : List Bytes := if (x.kind == 1 && !(acc.any fun y => x.site == y)) = true then acc ++ [x.site] else acc
def incs (l : List St) : List Bytes := l.foldl inc []

theorem incs_take {l : List St} {i : Nat} (hi : i < l.length) : incs (l.take (i + 1)) = inc (incs (l.take i)) l[i] := by
  rw [List.take_succ_eq_append_getElem hi, incs, List.foldl_append]; rfl

theorem inc_len (acc : List Bytes) (x : St) : (inc acc x).length ≤ acc.length + 1 := by
  unfold inc; split
  · simp
  · omega

theorem incs_len (l : List St) : (incs l).length ≤ l.length := by
  suffices h : ∀ (l : List St) (acc : List Bytes), (l.foldl inc acc).length ≤ acc.length + l.length by
    have := h l []; simpa [incs] using this
  intro l
  induction l with
  | nil => intro acc; simp
  | cons x r ih => intro acc; have := ih (inc acc x); have := inc_len acc x; simp only [List.foldl_cons, List.length_cons]; omega

theorem includes (l : List St) (σ : Mem) (hl : l.length ≤ 60) : CallTo cfg 12 [.row (l.map eSt)] σ (.row ((incs l).map .str)) σ := by
  refine CallR.walk .head (fn := Tryz.f12) ⟨rfl, rfl, rfl, rfl, rfl, rfl⟩ ?_
  (repeat (first | (refine Runs.step ?_; conv => whnf) | (refine condT ?_) | (refine condF ?_) | (refine chkT ?_) | (refine elemOK rfl ?_)))
  refine LoopR.walkS .head (fun n fr σ => ∃ (i : Nat) (acc : List Bytes), n = l.length - i ∧ (i ≤ l.length) ∧ (acc = incs (l.take i)) ∧ σ = [] ∧ matchF [none, none, some (.own 9 (acc.map .str)), none, none, some (.row (l.map eSt)), some (.int .i64 (l.map eSt).length), some (.int .i64 i), none, none, none, none, none, none, none, none, none, none, none, none, none, none, none, none, none, none, none, none] fr) ?_ ?_
  · exact ⟨_, ⟨0, [], rfl, by omega, rfl, rfl, rfl, rfl, rfl, rfl, trivial⟩⟩
  · (rintro n fr σ ⟨i, acc, rfl, h1, h2, rfl, hm⟩; obtain ⟨J, rfl⟩ := matchF_fill hm; clear hm)
    (refine Runs.step ?_; conv => whnf)
    refine ⟨fun h => ?_, fun h => ?_⟩
    · have hlt : i < l.length := by simpa using h
      have hal : acc.length ≤ 60 := by rw [h2]; have := incs_len (l.take i); simp at *; omega
      ((repeat (first | (refine Runs.step ?_; conv => whnf) | (refine condT ?_) | (refine condF ?_) | (refine chkT ?_) | (refine elemOK rfl ?_))); refine ⟨_, map_get (by simp) hlt, ?_⟩)
      (repeat (first | (refine Runs.step ?_; conv => whnf) | (refine condT ?_) | (refine condF ?_) | (refine chkT ?_) | (refine elemOK rfl ?_)))
      refine ⟨fun hk => ?_, fun hk => ?_⟩
      · have hk : (l[i].kind == 1) = true := hk
        (repeat (first | (refine Runs.step ?_; conv => whnf) | (refine condT ?_) | (refine condF ?_) | (refine chkT ?_) | (refine elemOK rfl ?_)))
        refine CallR.frz rfl rfl rfl ?_
        refine (contains_str acc l[i].site _ (by omega)).use ?_
        generalize hc : (acc.any fun x => l[i].site == x) = c
        cases c
        · (repeat (first | (refine Runs.step ?_; conv => whnf) | (refine condT ?_) | (refine condF ?_) | (refine chkT ?_) | (refine elemOK rfl ?_)))
          refine ⟨by simp [mostRow]; omega, ?_⟩
          (repeat (first | (refine Runs.step ?_; conv => whnf) | (refine condT ?_) | (refine condF ?_) | (refine chkT ?_) | (refine elemOK rfl ?_)))
          rw [wrapS i (by omega)]
          refine ⟨_, ?_, ⟨i + 1, acc ++ [l[i].site], rfl, by omega, ?_, rfl, by rw [List.map_append]; rfl, rfl, rfl, rfl, trivial⟩⟩
          · omega
          · rw [incs_take hlt, ← h2, inc, if_pos (by rw [hk, hc]; rfl)]
        · (repeat (first | (refine Runs.step ?_; conv => whnf) | (refine condT ?_) | (refine condF ?_) | (refine chkT ?_) | (refine elemOK rfl ?_)))
          rw [wrapS i (by omega)]
          refine ⟨_, ?_, ⟨i + 1, acc, rfl, by omega, ?_, rfl, rfl, rfl, rfl, rfl, trivial⟩⟩
          · omega
          · rw [incs_take hlt, ← h2, inc, if_neg (by rw [hk, hc]; simp)]
      · have hk : (l[i].kind == 1) = false := hk
        (repeat (first | (refine Runs.step ?_; conv => whnf) | (refine condT ?_) | (refine condF ?_) | (refine chkT ?_) | (refine elemOK rfl ?_)))
        rw [wrapS i (by omega)]
        refine ⟨_, ?_, ⟨i + 1, acc, rfl, by omega, ?_, rfl, rfl, rfl, rfl, rfl, trivial⟩⟩
        · omega
        · rw [incs_take hlt, ← h2, inc, if_neg (by rw [hk]; simp)]
    · have hlt : i = l.length := by have : ¬ i < l.length := by simpa using h
                                    omega
      (repeat (first | (refine Runs.step ?_; conv => whnf) | (refine condT ?_) | (refine condF ?_) | (refine chkT ?_) | (refine elemOK rfl ?_)))
      subst hlt
      rw [List.take_length] at h2
      subst h2
      exact ⟨_, rfl, rfl, rfl⟩

/-- waybillref22.Includes. -/
theorem ref_includes (l : List St) (σ : Mem) (hl : l.length ≤ 60) : CallTo cfg 13 [.row (l.map eSt)] σ (.row ((incs l).map .str)) σ := by
  refine CallR.walk .head (fn := Tryz.f13) ⟨rfl, rfl, rfl, rfl, rfl, rfl⟩ ?_
  (repeat (first | (refine Runs.step ?_; conv => whnf) | (refine condT ?_) | (refine condF ?_) | (refine chkT ?_) | (refine elemOK rfl ?_)))
  refine LoopR.walkS .head (fun n fr σ => ∃ (i : Nat) (acc : List Bytes), n = l.length - i ∧ (i ≤ l.length) ∧ (acc = incs (l.take i)) ∧ σ = [] ∧ matchF [some (.row (l.map eSt)), none, none, some (.own 9 (acc.map .str)), some (.int .i64 i), none, none, none, none, none, none, none, none, none, none, none, none, none, none, none, none, none, none, none, none, none, none, none, none, none, none, none, none, none, none, none, none, none, none, none, none, none, none, none, none, none, none, none, none, none] fr) ?_ ?_
  · exact ⟨_, ⟨0, [], rfl, by omega, rfl, rfl, rfl, rfl, rfl, trivial⟩⟩
  · (rintro n fr σ ⟨i, acc, rfl, h1, h2, rfl, hm⟩; obtain ⟨J, rfl⟩ := matchF_fill hm; clear hm)
    (refine Runs.step ?_; conv => whnf)
    refine ⟨fun h => ?_, fun h => ?_⟩
    · have hlt : i < l.length := by simpa using h
      have hal : acc.length ≤ 60 := by rw [h2]; have := incs_len (l.take i); simp at *; omega
      ((repeat (first | (refine Runs.step ?_; conv => whnf) | (refine condT ?_) | (refine condF ?_) | (refine chkT ?_) | (refine elemOK rfl ?_))); refine ⟨_, map_get (by simp) hlt, ?_⟩)
      (repeat (first | (refine Runs.step ?_; conv => whnf) | (refine condT ?_) | (refine condF ?_) | (refine chkT ?_) | (refine elemOK rfl ?_)))
      refine LoopR.walkS .head (fun n fr σ => ∃ (k : Nat) (b : Bool), n = acc.length - k ∧ (k ≤ acc.length) ∧ (b = (!(l[i].kind == 1) || (acc.take k).any fun y => l[i].site == y)) ∧ σ = [] ∧ matchF [some (.row (l.map eSt)), none, none, some (.own 9 (acc.map .str)), some (.int .i64 i), some (.bool b), some (.int .i64 k), none, none, none, none, none, none, none, none, none, none, none, none, none, none, none, none, none, none, none, none, none, none, none, none, none, none, none, none, none, none, none, none, none, none, none, none, none, none, none, none, none, none, none] fr) ?_ ?_
      · refine ⟨_, ⟨0, !(l[i].kind == 1), rfl, by omega, ?_, rfl, rfl, rfl, rfl, rfl, rfl, trivial⟩⟩
        simp
      · (rintro n fr σ ⟨k, b, rfl, g1, g2, rfl, hm⟩; obtain ⟨J, rfl⟩ := matchF_fill hm; clear hm)
        (refine Runs.step ?_; conv => whnf)
        refine ⟨fun h => ?_, fun h => ?_⟩
        · have hkt : k < acc.length := by simpa using h
          have g3 : (acc.take (k + 1)).any (fun y => l[i].site == y) = ((acc.take k).any (fun y => l[i].site == y) || l[i].site == acc[k]) := any_take hkt
          cases b
          · ((repeat (first | (refine Runs.step ?_; conv => whnf) | (refine condT ?_) | (refine condF ?_) | (refine chkT ?_) | (refine elemOK rfl ?_))); refine ⟨_, map_get (by simp) hkt, ?_⟩)
            ((repeat (first | (refine Runs.step ?_; conv => whnf) | (refine condT ?_) | (refine condF ?_) | (refine chkT ?_) | (refine elemOK rfl ?_))); refine ⟨_, map_get (by simp) hlt, ?_⟩)
            (repeat (first | (refine Runs.step ?_; conv => whnf) | (refine condT ?_) | (refine condF ?_) | (refine chkT ?_) | (refine elemOK rfl ?_)))
            rw [wrapS k (by omega)]
            refine ⟨_, ?_, ⟨k + 1, acc[k] == l[i].site, rfl, by omega, ?_, rfl, rfl, rfl, rfl, rfl, rfl, trivial⟩⟩
            · omega
            · have g2 := g2.symm
              rw [Bool.or_eq_false_iff] at g2
              rw [g3, g2.1, g2.2, BEq.comm]; rfl
          · (repeat (first | (refine Runs.step ?_; conv => whnf) | (refine condT ?_) | (refine condF ?_) | (refine chkT ?_) | (refine elemOK rfl ?_)))
            rw [wrapS k (by omega)]
            refine ⟨_, ?_, ⟨k + 1, true, rfl, by omega, ?_, rfl, rfl, rfl, rfl, rfl, rfl, trivial⟩⟩
            · omega
            · rw [g3, ← Bool.or_assoc, ← g2]; rfl
        · have hkt : k = acc.length := by have : ¬ k < acc.length := by simpa using h
                                          omega
          subst hkt
          rw [List.take_length] at g2
          cases b
          · ((repeat (first | (refine Runs.step ?_; conv => whnf) | (refine condT ?_) | (refine condF ?_) | (refine chkT ?_) | (refine elemOK rfl ?_))); refine ⟨_, map_get (by simp) hlt, ?_⟩)
            (repeat (first | (refine Runs.step ?_; conv => whnf) | (refine condT ?_) | (refine condF ?_) | (refine chkT ?_) | (refine elemOK rfl ?_)))
            refine ⟨by simp [mostRow]; omega, ?_⟩
            (repeat (first | (refine Runs.step ?_; conv => whnf) | (refine condT ?_) | (refine condF ?_) | (refine chkT ?_) | (refine elemOK rfl ?_)))
            rw [wrapS i (by omega)]
            refine ⟨_, ?_, ⟨i + 1, acc ++ [l[i].site], rfl, by omega, ?_, rfl, rfl, by rw [List.map_append]; rfl, rfl, trivial⟩⟩
            · omega
            · have g2 := g2.symm
              rw [Bool.or_eq_false_iff] at g2
              rw [incs_take hlt, ← h2, inc, if_pos (by rw [notF g2.1, g2.2]; rfl)]
          · (repeat (first | (refine Runs.step ?_; conv => whnf) | (refine condT ?_) | (refine condF ?_) | (refine chkT ?_) | (refine elemOK rfl ?_)))
            rw [wrapS i (by omega)]
            refine ⟨_, ?_, ⟨i + 1, acc, rfl, by omega, ?_, rfl, rfl, rfl, rfl, trivial⟩⟩
            · omega
            · rw [incs_take hlt, ← h2, inc, if_neg]
              intro hc
              rw [Bool.and_eq_true] at hc
              rw [hc.1, notT hc.2] at g2
              exact absurd g2 (by decide)
    · have hlt : i = l.length := by have : ¬ i < l.length := by simpa using h
                                    omega
      (repeat (first | (refine Runs.step ?_; conv => whnf) | (refine condT ?_) | (refine condF ?_) | (refine chkT ?_) | (refine elemOK rfl ?_)))
      subst hlt
      rw [List.take_length] at h2
      subst h2
      exact ⟨_, rfl, rfl, rfl⟩

end MI.Tryz

