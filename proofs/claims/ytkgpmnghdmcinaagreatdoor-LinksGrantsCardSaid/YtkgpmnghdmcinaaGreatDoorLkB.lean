/-
  A part of the proof that the law answers true for every input: LkB. Conditions: those of each theorem.
-/
import Derived.Test.YtkgpmnghdmcinaaGreatDoorLkA
set_option linter.all false
set_option autoImplicit true
namespace MI.Tryz
open Go Go.Proofs MI
set_option maxRecDepth 100000

abbrev Pr := Nat → UInt8
def prC (p : Pr) : List V := [byteV (p 0), byteV (p 1), byteV (p 2), byteV (p 3), byteV (p 4), byteV (p 5), byteV (p 6), byteV (p 7), byteV (p 8), byteV (p 9), byteV (p 10), byteV (p 11), byteV (p 12), byteV (p 13), byteV (p 14), byteV (p 15), byteV (p 16), byteV (p 17), byteV (p 18), byteV (p 19), byteV (p 20), byteV (p 21), byteV (p 22), byteV (p 23), byteV (p 24), byteV (p 25), byteV (p 26), byteV (p 27), byteV (p 28), byteV (p 29), byteV (p 30), byteV (p 31)]
def ePr (p : Pr) : V := .agg (prC p)
def prEq (p q : Pr) : Bool := (List.range 32).all fun i => ((p i).toNat : Int) == ((q i).toNat : Int)

structure St where
  kind : Int
  rels : List Bytes
  pkg : Bytes
  prints : List Pr
  site : Bytes

def eSt (x : St) : V := .agg [.int .i64 x.kind, .row (x.rels.map .str), .str x.pkg, .row (x.prints.map ePr), .str x.site]

/-- slices.Index over fingerprints. -/
theorem index_pr (xs : List Pr) (p : Pr) (σ : Mem) (hl : xs.length ≤ 4611686018427387904) : CallTo cfg 72 [.row (xs.map ePr), ePr p] σ (.int .i64 (pos (fun x => prEq p x) xs)) σ := by
  refine CallR.walk .head (fn := Tryz.f72) ⟨rfl, rfl, rfl, rfl, rfl, rfl⟩ ?_
  (refine Runs.step ?_; conv => whnf)
  refine LoopR.walkS .head (fun n fr σ => ∃ (i : Nat), n = xs.length - i ∧ (i ≤ xs.length) ∧ (∀ (j : Nat) (h : j < xs.length), j < i → prEq p xs[j] = false) ∧ σ = [⟨prC p, 24, 0, false, false, 0⟩] ∧ matchF [some (.row (xs.map ePr)), none, none, some (.ptr 0 0 0), none, none, some (.row (xs.map ePr)), some (.int .i64 (xs.map ePr).length), some (.int .i64 i), none, none, none, none, none, none, none, none, none, none] fr) ?_ ?_
  · exact ⟨_, ⟨0, rfl, by omega, fun j _ hj => absurd hj (by omega), rfl, rfl, rfl, rfl, rfl, rfl, trivial⟩⟩
  · (rintro n fr σ ⟨i, rfl, h1, h2, rfl, hm⟩; obtain ⟨J, rfl⟩ := matchF_fill hm; clear hm)
    (refine Runs.step ?_; conv => whnf)
    refine ⟨fun h => ?_, fun h => ?_⟩
    · have hlt : i < xs.length := by simpa using h
      (refine Runs.step ?_; conv => whnf)
      refine ⟨by simp, ?_⟩
      (refine Runs.step ?_; conv => whnf)
      refine ⟨_, map_get (by simp) hlt, ?_⟩
      (refine Runs.step ?_; conv => whnf)
      refine ⟨fun h => ?_, fun h => ?_⟩
      · have h : prEq p xs[i] = true := h
        (repeat (first | (refine Runs.step ?_; conv => whnf) | (refine condT ?_) | (refine condF ?_) | (refine chkT ?_) | (refine elemOK rfl ?_)))
        exact ⟨_, rfl, by rw [pos_found hlt h h2]; rfl, rfl⟩
      · have h : prEq p xs[i] = false := h
        (repeat (first | (refine Runs.step ?_; conv => whnf) | (refine condT ?_) | (refine condF ?_) | (refine chkT ?_) | (refine elemOK rfl ?_)))
        rw [wrapS i (by omega)]
        refine ⟨_, ?_, ⟨i + 1, rfl, by omega, ?_, rfl, rfl, rfl, rfl, rfl, rfl, trivial⟩⟩
        · omega
        · intro j hj hji
          by_cases hj' : j = i
          · subst hj'; exact h
          · exact h2 j hj (by omega)
    · have hlt : i = xs.length := by have : ¬ i < xs.length := by simpa using h
                                     omega
      (repeat (first | (refine Runs.step ?_; conv => whnf) | (refine condT ?_) | (refine condF ?_) | (refine chkT ?_) | (refine elemOK rfl ?_)))
      exact ⟨_, rfl, by rw [pos_none fun j hj => h2 j hj (by omega)]; rfl, rfl⟩

theorem contains_str (xs : List Bytes) (s : Bytes) (σ : Mem) (hl : xs.length ≤ 4611686018427387904) : CallTo cfg 23 [.row (xs.map .str), .str s] σ (.bool (xs.any fun x => s == x)) σ := by
  refine CallR.walk .head (fn := Tryz.f23) ⟨rfl, rfl, rfl, rfl, rfl, rfl⟩ ?_
  (refine Runs.step ?_; conv => whnf)
  refine (index_str xs s _ hl).use ?_
  (repeat (first | (refine Runs.step ?_; conv => whnf) | (refine condT ?_) | (refine condF ?_) | (refine chkT ?_) | (refine elemOK rfl ?_)))
  exact ⟨_, rfl, by rw [← pos_ge]; rfl, rfl⟩

theorem contains_pr (xs : List Pr) (p : Pr) (σ : Mem) (hl : xs.length ≤ 4611686018427387904) : CallTo cfg 42 [.row (xs.map ePr), ePr p] σ (.bool (xs.any fun x => prEq p x)) σ := by
  refine CallR.walk .head (fn := Tryz.f42) ⟨rfl, rfl, rfl, rfl, rfl, rfl⟩ ?_
  (refine Runs.step ?_; conv => whnf)
  refine (index_pr xs p _ hl).use ?_
  (repeat (first | (refine Runs.step ?_; conv => whnf) | (refine condT ?_) | (refine condF ?_) | (refine chkT ?_) | (refine elemOK rfl ?_)))
  exact ⟨_, rfl, by rw [← pos_ge]; rfl, rfl⟩

theorem ident_has (xs : List Pr) (p : Pr) (σ : Mem) (hl : xs.length ≤ 4611686018427387904) : CallTo cfg 24 [.row (xs.map ePr), ePr p] σ (.bool (xs.any fun x => prEq p x)) σ := by
  refine CallR.walk .head (fn := Tryz.f24) ⟨rfl, rfl, rfl, rfl, rfl, rfl⟩ ?_
  (refine Runs.step ?_; conv => whnf)
  refine (contains_pr xs p _ hl).use ?_
  (repeat (first | (refine Runs.step ?_; conv => whnf) | (refine condT ?_) | (refine condF ?_) | (refine chkT ?_) | (refine elemOK rfl ?_)))
  exact ⟨_, rfl, rfl, rfl⟩

/-- What a statement lets. -/
def letsB (pkg : Bytes) (p : Pr) (rel : Bytes) (x : St) : Bool := x.kind == 2 && x.pkg == pkg && (x.rels.any fun r => rel == r) && (x.prints.any fun q => prEq p q)

def memG (pkg : Bytes) (p : Pr) (rel : Bytes) : Mem := [⟨[.str pkg], 9, 0, false, false, 0⟩, ⟨prC p, 24, 0, false, false, 0⟩, ⟨[.str rel], 9, 0, false, false, 0⟩]

theorem grants1 (x : St) (pkg : Bytes) (p : Pr) (rel : Bytes) (h1 : x.rels.length ≤ 4611686018427387904) (h2 : x.prints.length ≤ 4611686018427387904) : CallTo cfg 22 [eSt x, .ptr 0 0 0, .ptr 2 0 0, .ptr 1 0 0] (memG pkg p rel) (.bool (letsB pkg p rel x)) (memG pkg p rel) := by
  refine CallR.walkM .head (fn := Tryz.f22) ⟨rfl, rfl, rfl, rfl, rfl, rfl⟩ ?_
  (repeat (first | (refine Runs.step ?_; conv => whnf) | (refine condT ?_) | (refine condF ?_) | (refine chkT ?_) | (refine elemOK rfl ?_)))
  refine ⟨fun hk => ?_, fun hk => ?_⟩
  · (repeat (first | (refine Runs.step ?_; conv => whnf) | (refine condT ?_) | (refine condF ?_) | (refine chkT ?_) | (refine elemOK rfl ?_)))
    refine ⟨fun hp => ?_, fun hp => ?_⟩
    · (repeat (first | (refine Runs.step ?_; conv => whnf) | (refine condT ?_) | (refine condF ?_) | (refine chkT ?_) | (refine elemOK rfl ?_)))
      refine (contains_str x.rels rel _ h1).use ?_
      (repeat (first | (refine Runs.step ?_; conv => whnf) | (refine condT ?_) | (refine condF ?_) | (refine chkT ?_) | (refine elemOK rfl ?_)))
      refine ⟨fun hr => ?_, fun hr => ?_⟩
      · (repeat (first | (refine Runs.step ?_; conv => whnf) | (refine condT ?_) | (refine condF ?_) | (refine chkT ?_) | (refine elemOK rfl ?_)))
        refine (ident_has x.prints p _ h2).use ?_
        (repeat (first | (refine Runs.step ?_; conv => whnf) | (refine condT ?_) | (refine condF ?_) | (refine chkT ?_) | (refine elemOK rfl ?_)))
        refine ⟨_, rfl, ?_, rfl⟩
        simp only [letsB, hk, hp, hr]
        rfl
      · (repeat (first | (refine Runs.step ?_; conv => whnf) | (refine condT ?_) | (refine condF ?_) | (refine chkT ?_) | (refine elemOK rfl ?_)))
        refine ⟨_, rfl, ?_, rfl⟩
        simp only [letsB, hk, hp, hr]
        rfl
    · (repeat (first | (refine Runs.step ?_; conv => whnf) | (refine condT ?_) | (refine condF ?_) | (refine chkT ?_) | (refine elemOK rfl ?_)))
      refine ⟨_, rfl, ?_, rfl⟩
      simp only [letsB, hk, hp]
      rfl
  · (repeat (first | (refine Runs.step ?_; conv => whnf) | (refine condT ?_) | (refine condF ?_) | (refine chkT ?_) | (refine elemOK rfl ?_)))
    refine ⟨_, rfl, ?_, rfl⟩
    simp only [letsB, hk]
    rfl
end MI.Tryz

