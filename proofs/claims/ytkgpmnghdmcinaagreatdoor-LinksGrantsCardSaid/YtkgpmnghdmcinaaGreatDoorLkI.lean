/-
  A part of the proof that the law answers true for every input: LkI. Conditions: those of each theorem.
-/
import Derived.Test.YtkgpmnghdmcinaaGreatDoorLkH
set_option linter.all false
set_option autoImplicit true
namespace MI.Tryz
open Go Go.Proofs MI
set_option maxRecDepth 100000

theorem grantsV {xs : List V} {ys : List St} (h : xs = ys.map eSt) (pkg : Bytes) (p : Pr) (rel : Bytes) (σ : Mem) (hl : ys.length ≤ 4611686018427387904) (hx : ∀ x ∈ ys, stOK x) :
    CallTo cfg 9 [.row xs, .str pkg, ePr p, .str rel] σ (.bool (ys.any (letsB pkg p rel))) σ := by subst h; exact grants ys pkg p rel σ hl hx

theorem headK_st (l : List St) : headK 5 (l.map eSt) = true := by cases l <;> rfl

theorem SmallL.ok {l : List St} (h : SmallL l) : ∀ x ∈ l, stOK x := fun x hx => ⟨by have := (h.2 x hx).rels; omega, by have := (h.2 x hx).prints; omega⟩

theorem any_apps (l : List St) (pkg : Bytes) (p : Pr) (rel : Bytes) : (l.filter fun x => x.kind == 2).any (letsB pkg p rel) = l.any (letsB pkg p rel) := by
  induction l with
  | nil => rfl
  | cons x r ih =>
    rw [List.filter_cons]
    split
    · rw [List.any_cons, List.any_cons, ih]
    · rename_i h
      rw [ih, List.any_cons]
      have : letsB pkg p rel x = false := by
        have h' : (x.kind == 2) = false := by simpa using h
        simp [letsB, h']
      rw [this]; rfl

theorem law_more (l m : List St) (pkg : Bytes) (p : Pr) (rel : Bytes) : CallTo cfg 3 [.row (l.map eSt), .row (m.map eSt), .str pkg, ePr p, .str rel] [] (.bool true) [] := by
  refine CallR.walk .head (fn := Tryz.f3) ⟨rfl, rfl, rfl, rfl, rfl, rfl⟩ ?_
  (repeat (first | (refine Runs.step ?_; conv => whnf) | (refine condT ?_) | (refine condF ?_) | (refine chkT ?_) | (refine elemOK rfl ?_)))
  refine (speaks _).use ?_
  (repeat (first | (refine Runs.step ?_; conv => whnf) | (refine condT ?_) | (refine condF ?_) | (refine chkT ?_) | (refine elemOK rfl ?_)))
  refine (great l _).mono ?_
  rintro v s ⟨rfl, b1, rfl, hs1⟩
  (repeat (first | (refine Runs.step ?_; conv => whnf) | (refine condT ?_) | (refine condF ?_) | (refine chkT ?_) | (refine elemOK rfl ?_)))
  refine ⟨fun ha => ?_, fun ha => ?_⟩
  · (repeat (first | (refine Runs.step ?_; conv => whnf) | (refine condT ?_) | (refine condF ?_) | (refine chkT ?_) | (refine elemOK rfl ?_)))
    exact ⟨_, rfl, rfl, rfl⟩
  · have hs1 := hs1 ha
    (repeat (first | (refine Runs.step ?_; conv => whnf) | (refine condT ?_) | (refine condF ?_) | (refine chkT ?_) | (refine elemOK rfl ?_)))
    refine (great m _).mono ?_
    rintro v s ⟨rfl, b2, rfl, hs2⟩
    (repeat (first | (refine Runs.step ?_; conv => whnf) | (refine condT ?_) | (refine condF ?_) | (refine chkT ?_) | (refine elemOK rfl ?_)))
    refine ⟨fun hb => ?_, fun hb => ?_⟩
    · (repeat (first | (refine Runs.step ?_; conv => whnf) | (refine condT ?_) | (refine condF ?_) | (refine chkT ?_) | (refine elemOK rfl ?_)))
      exact ⟨_, rfl, rfl, rfl⟩
    · have hs2 := hs2 hb
      (repeat (first | (refine Runs.step ?_; conv => whnf) | (refine condT ?_) | (refine condF ?_) | (refine chkT ?_) | (refine elemOK rfl ?_)))
      refine ⟨fun hc => ?_, fun hc => ?_⟩
      · (repeat (first | (refine Runs.step ?_; conv => whnf) | (refine condT ?_) | (refine condF ?_) | (refine chkT ?_) | (refine elemOK rfl ?_)))
        exact ⟨_, rfl, rfl, rfl⟩
      · (repeat (first | (refine Runs.step ?_; conv => whnf) | (refine condT ?_) | (refine condF ?_) | (refine chkT ?_) | (refine elemOK rfl ?_)))
        refine ⟨fun hd => ?_, fun hd => ?_⟩
        · (repeat (first | (refine Runs.step ?_; conv => whnf) | (refine condT ?_) | (refine condF ?_) | (refine chkT ?_) | (refine elemOK rfl ?_)))
          exact ⟨_, rfl, rfl, rfl⟩
        · (repeat (first | (refine Runs.step ?_; conv => whnf) | (refine condT ?_) | (refine condF ?_) | (refine chkT ?_) | (refine elemOK rfl ?_)))
          refine ⟨headK_st l, ?_⟩
          (repeat (first | (refine Runs.step ?_; conv => whnf) | (refine condT ?_) | (refine condF ?_) | (refine chkT ?_) | (refine elemOK rfl ?_)))
          refine ⟨by have := hs1.1; simp [mostRow]; omega, ?_⟩
          (repeat (first | (refine Runs.step ?_; conv => whnf) | (refine condT ?_) | (refine condF ?_) | (refine chkT ?_) | (refine elemOK rfl ?_)))
          refine ⟨headK_st m, ?_⟩
          (repeat (first | (refine Runs.step ?_; conv => whnf) | (refine condT ?_) | (refine condF ?_) | (refine chkT ?_) | (refine elemOK rfl ?_)))
          refine ⟨by have := hs1.1; have := hs2.1; simp [mostRow]; omega, ?_⟩
          (repeat (first | (refine Runs.step ?_; conv => whnf) | (refine condT ?_) | (refine condF ?_) | (refine chkT ?_) | (refine elemOK rfl ?_)))
          refine LoopR.walkS .head (fun n fr σ => ∃ (i : Nat) (av : List V), n = l.length - i ∧ (i ≤ l.length) ∧ (av = ((l.take i).filter fun x => x.kind == 2).map eSt) ∧ σ = [⟨prC p, 24, 0, false, false, 0⟩] ∧ matchF [some (.row (l.map eSt)), some (.row (m.map eSt)), some (.str pkg), none, some (.str rel), none, none, none, some (.ptr 0 0 0), none, none, some (.own 30 (l.map eSt ++ m.map eSt)), some (.own 30 av), none, none, none, none, none, none, none, none, none, none, none, none, none, none, none, none, none, none, none, none, none, none, none, none, none, none, none, none, some (.row (l.map eSt)), some (.int .i64 (l.map eSt).length), some (.int .i64 i), none, none, none, none, none, none, none, none, none, none, none, none, none, none, none, none, none, none, none, none, none, none, none, none, none, none, none, none, none, none, none, none, none, none, none, none, none, none, none, none, none, none, none, none, none, none, none] fr) ?_ ?_
          · exact ⟨_, ⟨0, [], rfl, by omega, rfl, rfl, rfl, rfl, rfl, rfl, rfl, rfl, rfl, rfl, rfl, rfl, trivial⟩⟩
          · (rintro n fr σ ⟨i, av, rfl, h1, h2, rfl, hm⟩; obtain ⟨J, rfl⟩ := matchF_fill hm; clear hm)
            (refine Runs.step ?_; conv => whnf)
            refine ⟨fun h => ?_, fun h => ?_⟩
            · have hlt : i < l.length := by simpa using h
              (refine Runs.step ?_; conv => whnf)
              refine ⟨by simp, ?_⟩
              (refine Runs.step ?_; conv => whnf)
              refine ⟨_, map_get (by simp) hlt, ?_⟩
              (repeat (first | (refine Runs.step ?_; conv => whnf) | (refine condT ?_) | (refine condF ?_) | (refine chkT ?_) | (refine elemOK rfl ?_)))
              refine ⟨fun hk => ?_, fun hk => ?_⟩
              · (repeat (first | (refine Runs.step ?_; conv => whnf) | (refine condT ?_) | (refine condF ?_) | (refine chkT ?_) | (refine elemOK rfl ?_)))
                have hav : av.length ≤ 60 := by rw [h2]; have := List.length_filter_le (fun x : St => x.kind == 2) (l.take i); have := hs1.1; simp at *; omega
                refine ⟨by simp [mostRow]; omega, ?_⟩
                (repeat (first | (refine Runs.step ?_; conv => whnf) | (refine condT ?_) | (refine condF ?_) | (refine chkT ?_) | (refine elemOK rfl ?_)))
                rw [wrapS i (by have := hs1.1; omega)]
                refine ⟨_, ?_, ⟨i + 1, av ++ [eSt l[i]], rfl, by omega, ?_, rfl, rfl, rfl, rfl, rfl, rfl, rfl, rfl, rfl, rfl, rfl, trivial⟩⟩
                · omega
                · have hk : (l[i].kind == 2) = true := hk
                  rw [h2, List.take_succ_eq_append_getElem hlt, List.filter_append, List.map_append]
                  simp [hk]
              · (repeat (first | (refine Runs.step ?_; conv => whnf) | (refine condT ?_) | (refine condF ?_) | (refine chkT ?_) | (refine elemOK rfl ?_)))
                rw [wrapS i (by have := hs1.1; omega)]
                refine ⟨_, ?_, ⟨i + 1, av, rfl, by omega, ?_, rfl, rfl, rfl, rfl, rfl, rfl, rfl, rfl, rfl, rfl, rfl, trivial⟩⟩
                · omega
                · have hk : (l[i].kind == 2) = false := hk
                  rw [h2, List.take_succ_eq_append_getElem hlt, List.filter_append, List.map_append]
                  simp [hk]
            · have hlt : i = l.length := by have : ¬ i < l.length := by simpa using h
                                            omega
              subst hlt
              rw [List.take_length] at h2
              subst h2
              have g1 := fun σ => grants l pkg p rel σ (by have := hs1.1; omega) hs1.ok
              have g2 := fun σ => grants m pkg p rel σ (by have := hs2.1; omega) hs2.ok
              have g3 := fun σ => grantsV (xs := l.map eSt ++ m.map eSt) (ys := l ++ m) (by simp) pkg p rel σ (by have := hs1.1; have := hs2.1; simp; omega) (fun x hx => (List.mem_append.1 hx).elim (hs1.ok x) (hs2.ok x))
              have g4 := fun σ => grants (l.filter fun x => x.kind == 2) pkg p rel σ (by have := List.length_filter_le (fun x : St => x.kind == 2) l; have := hs1.1; omega) (fun x hx => hs1.ok x (List.mem_filter.1 hx).1)
              have g5 := fun σ => grants [] pkg p rel σ (by simp) (fun x hx => by cases hx)
              rw [any_apps] at g4
              rw [List.any_append] at g3
              generalize l.any (letsB pkg p rel) = A at g1 g3 g4
              generalize m.any (letsB pkg p rel) = B at g2 g3
              cases A <;> cases B
              all_goals
                (repeat (first | (refine Runs.step ?_; conv => whnf) | (refine condT ?_) | (refine condF ?_) | (refine chkT ?_) | (refine elemOK rfl ?_)))
                refine (g1 _).use ?_
                (repeat (first | (refine Runs.step ?_; conv => whnf) | (refine condT ?_) | (refine condF ?_) | (refine chkT ?_) | (refine elemOK rfl ?_)))
                refine (g2 _).use ?_
                (repeat (first | (refine Runs.step ?_; conv => whnf) | (refine condT ?_) | (refine condF ?_) | (refine chkT ?_) | (refine elemOK rfl ?_)))
                refine (g3 _).use ?_
                (repeat (first | (refine Runs.step ?_; conv => whnf) | (refine condT ?_) | (refine condF ?_) | (refine chkT ?_) | (refine elemOK rfl ?_)))
                refine (g4 _).use ?_
                (repeat (first | (refine Runs.step ?_; conv => whnf) | (refine condT ?_) | (refine condF ?_) | (refine chkT ?_) | (refine elemOK rfl ?_)))
                refine CallR.frz rfl rfl rfl ?_
                refine (g5 _).use ?_
                (repeat (first | (refine Runs.step ?_; conv => whnf) | (refine condT ?_) | (refine condF ?_) | (refine chkT ?_) | (refine elemOK rfl ?_)))
                exact ⟨_, rfl, rfl, rfl⟩
end MI.Tryz

