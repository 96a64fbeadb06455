/-
  A part of the proof that the law answers true for every input: LkD. Conditions: those of each theorem.
-/
import Derived.Test.YtkgpmnghdmcinaaGreatDoorLkC
import Derived.Test.YtkgpmnghdmcinaaGreatDoorSpkL
set_option linter.all false
set_option autoImplicit true
namespace MI.Tryz
open Go Go.Proofs MI
set_option maxRecDepth 100000

theorem speaks (σ : Mem) : CallTo cfg 7 [] σ (.bool true) σ := CallTo.none rfl rfl (fun _ => rfl) (fn := Tryz.f7) rfl speaks0 rfl σ

def handle : Bytes := [100, 101, 108, 101, 103, 97, 116, 101, 95, 112, 101, 114, 109, 105, 115, 115, 105, 111, 110, 47, 99, 111, 109, 109, 111, 110, 46, 104, 97, 110, 100, 108, 101, 95, 97, 108, 108, 95, 117, 114, 108, 115]

/-- Is one of the first so many of a kind? -/
theorem any_take {α : Type} {q : α → Bool} {xs : List α} {i : Nat} (hi : i < xs.length) : ((xs.take (i + 1)).any q) = ((xs.take i).any q || q xs[i]) := by
  rw [List.take_succ_eq_append_getElem hi, List.any_append]
  simp

def oneSt (prints : List Pr) (pkg : Bytes) (rels : List Bytes) : St := ⟨2, rels, pkg, prints, []⟩

theorem lets_one (prints : List Pr) (p : Pr) (pkg : Bytes) : [oneSt prints pkg [[97, 47, 98], handle]].any (letsB pkg p handle) = prints.any fun q => prEq p q := by
  simp [oneSt, letsB]
theorem lets_other (prints : List Pr) (p : Pr) (pkg : Bytes) : [oneSt prints pkg [[97, 47, 98], handle]].any (letsB (pkg ++ [120]) p handle) = false := by
  simp [oneSt, letsB]
theorem lets_short (prints : List Pr) (p : Pr) (pkg : Bytes) : [oneSt prints pkg [[97, 47, 98]]].any (letsB pkg p handle) = false := by
  simp [oneSt, letsB, handle]

theorem law_prints (prints : List Pr) (p : Pr) (pkg : Bytes) : CallTo cfg 4 [.row (prints.map ePr), ePr p, .str pkg] [] (.bool true) [] := by
  refine CallR.walk .head (fn := Tryz.f4) ⟨rfl, rfl, rfl, rfl, rfl, rfl⟩ ?_
  (repeat (first | (refine Runs.step ?_; conv => whnf) | (refine condT ?_) | (refine condF ?_) | (refine chkT ?_) | (refine elemOK rfl ?_)))
  refine (speaks _).use ?_
  (repeat (first | (refine Runs.step ?_; conv => whnf) | (refine condT ?_) | (refine condF ?_) | (refine chkT ?_) | (refine elemOK rfl ?_)))
  refine ⟨fun ha1 => ?_, fun ha1 => ?_⟩
  · (repeat (first | (refine Runs.step ?_; conv => whnf) | (refine condT ?_) | (refine condF ?_) | (refine chkT ?_) | (refine elemOK rfl ?_)))
    exact ⟨_, rfl, rfl, rfl⟩
  · have hl0 : prints.length ≤ 60 := by have := of_decide_eq_false ha1; simp at this; omega
    have hl : prints.length ≤ 4611686018427387904 := by omega
    (repeat (first | (refine Runs.step ?_; conv => whnf) | (refine condT ?_) | (refine condF ?_) | (refine chkT ?_) | (refine elemOK rfl ?_)))
    refine ⟨fun ha2 => ?_, fun ha2 => ?_⟩
    · (repeat (first | (refine Runs.step ?_; conv => whnf) | (refine condT ?_) | (refine condF ?_) | (refine chkT ?_) | (refine elemOK rfl ?_)))
      exact ⟨_, rfl, rfl, rfl⟩
    · (repeat (first | (refine Runs.step ?_; conv => whnf) | (refine condT ?_) | (refine condF ?_) | (refine chkT ?_) | (refine elemOK rfl ?_)))
      refine LoopR.walkS .head (fun n fr σ => ∃ (i : Nat) (b : Bool), n = prints.length - i ∧ (i ≤ prints.length) ∧ (b = (prints.take i).any fun q => prEq p q) ∧ σ = [⟨prC p, 24, 0, false, false, 0⟩] ∧ matchF [some (.row (prints.map ePr)), none, some (.str pkg), none, some (.ptr 0 0 0), none, none, some (.bool b), none, none, none, none, none, none, none, none, none, none, none, none, none, none, none, some (.row (prints.map ePr)), some (.int .i64 (prints.map ePr).length), some (.int .i64 i), none, none, none, none, none, none, none, none, none, none, none, none, none, none, none, none, none, none, none, none, none, none, none, none, none, none, none, none, none, none, none, none, none, none, none, none, none, none, none, none, none, none, none, none] fr) ?_ ?_
      · exact ⟨_, ⟨0, false, rfl, by omega, rfl, rfl, rfl, rfl, rfl, rfl, rfl, rfl, rfl, trivial⟩⟩
      · (rintro n fr σ ⟨i, b, rfl, h1, h2, rfl, hm⟩; obtain ⟨J, rfl⟩ := matchF_fill hm; clear hm)
        (refine Runs.step ?_; conv => whnf)
        refine ⟨fun h => ?_, fun h => ?_⟩
        · have hlt : i < prints.length := by simpa using h
          (refine Runs.step ?_; conv => whnf)
          refine ⟨by simp, ?_⟩
          (refine Runs.step ?_; conv => whnf)
          refine ⟨_, map_get (by simp) hlt, ?_⟩
          (refine Runs.step ?_; conv => whnf)
          refine ⟨fun ha => ?_, fun ha => ?_⟩
          · (repeat (first | (refine Runs.step ?_; conv => whnf) | (refine condT ?_) | (refine condF ?_) | (refine chkT ?_) | (refine elemOK rfl ?_)))
            rw [wrapS i (by omega)]
            refine ⟨_, ?_, ⟨i + 1, true, rfl, by omega, by rw [any_take hlt, ← h2, ha]; rfl, rfl, rfl, rfl, rfl, rfl, rfl, rfl, rfl, trivial⟩⟩
            omega
          · (repeat (first | (refine Runs.step ?_; conv => whnf) | (refine condT ?_) | (refine condF ?_) | (refine chkT ?_) | (refine elemOK rfl ?_)))
            rw [wrapS i (by omega)]
            refine ⟨_, ?_, ⟨i + 1, prEq p prints[i], rfl, by omega, by rw [any_take hlt, ← h2, ha]; rfl, rfl, rfl, rfl, rfl, rfl, rfl, rfl, rfl, trivial⟩⟩
            omega
        · have hlt : i = prints.length := by have : ¬ i < prints.length := by simpa using h
                                             omega
          subst hlt
          rw [List.take_length] at h2
          (repeat (first | (refine Runs.step ?_; conv => whnf) | (refine condT ?_) | (refine condF ?_) | (refine chkT ?_) | (refine elemOK rfl ?_)))
          subst h2
          refine CallR.frz rfl rfl rfl ?_
          have g1 := fun σ => grants [oneSt prints pkg [[97, 47, 98], handle]] pkg p handle σ (by simp) (by simp [oneSt, stOK, hl])
          rw [lets_one] at g1
          refine (g1 _).use ?_
          (repeat (first | (refine Runs.step ?_; conv => whnf) | (refine condT ?_) | (refine condF ?_) | (refine chkT ?_) | (refine elemOK rfl ?_)))
          have hp : pkg.length ≤ 300 := by have := of_decide_eq_false ha2; omega
          refine ⟨by simp; omega, ?_⟩
          (repeat (first | (refine Runs.step ?_; conv => whnf) | (refine condT ?_) | (refine condF ?_) | (refine chkT ?_) | (refine elemOK rfl ?_)))
          refine CallR.frz rfl rfl rfl ?_
          have g2 := fun σ => grants [oneSt prints pkg [[97, 47, 98], handle]] (pkg ++ [120]) p handle σ (by simp) (by simp [oneSt, stOK, hl])
          rw [lets_other] at g2
          refine (g2 _).use ?_
          (repeat (first | (refine Runs.step ?_; conv => whnf) | (refine condT ?_) | (refine condF ?_) | (refine chkT ?_) | (refine elemOK rfl ?_)))
          refine ⟨fun he => ?_, fun he => ?_⟩
          · (repeat (first | (refine Runs.step ?_; conv => whnf) | (refine condT ?_) | (refine condF ?_) | (refine chkT ?_) | (refine elemOK rfl ?_)))
            refine CallR.frz rfl rfl rfl ?_
            have g3 := fun σ => grants [oneSt prints pkg [[97, 47, 98]]] pkg p handle σ (by simp) (by simp [oneSt, stOK, hl])
            rw [lets_short] at g3
            refine (g3 _).use ?_
            (repeat (first | (refine Runs.step ?_; conv => whnf) | (refine condT ?_) | (refine condF ?_) | (refine chkT ?_) | (refine elemOK rfl ?_)))
            exact ⟨_, rfl, rfl, rfl⟩
          · exact absurd he (by simp)
end MI.Tryz

