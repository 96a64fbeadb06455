/-
  A part of the proof that the law answers true for every input: LkN. Conditions: those of each theorem.
-/
import Derived.Test.YtkgpmnghdmcinaaGreatDoorLkK
set_option linter.all false
set_option autoImplicit true
namespace MI.Tryz
open Go Go.Proofs MI
set_option maxRecDepth 100000
set_option maxHeartbeats 4000000

/-- waybillref02.Small, over a byte's number. -/
def lowI (b : Int) : Int := if (decide (b ≥ 65) && decide (b ≤ 90)) = true then b + 32 else b

theorem ref_small (b : UInt8) (σ : Mem) : CallTo cfg 27 [byteV b] σ (.int .u8 (lowI b.toNat)) σ := by
  have hb := b.toNat_lt
  refine CallR.walk .head (fn := Tryz.f27) ⟨rfl, rfl, rfl, rfl, rfl, rfl⟩ ?_
  (repeat (first | (refine Runs.step ?_; conv => whnf) | (refine condT ?_) | (refine condF ?_) | (refine chkT ?_) | (refine elemOK rfl ?_)))
  refine ⟨fun h1 => ?_, fun h1 => ?_⟩
  · (repeat (first | (refine Runs.step ?_; conv => whnf) | (refine condT ?_) | (refine condF ?_) | (refine chkT ?_) | (refine elemOK rfl ?_)))
    refine ⟨fun h2 => ?_, fun h2 => ?_⟩
    · (repeat (first | (refine Runs.step ?_; conv => whnf) | (refine condT ?_) | (refine condF ?_) | (refine chkT ?_) | (refine elemOK rfl ?_)))
      refine ⟨_, rfl, ?_, rfl⟩
      have e := IntWalk.u8_in (↑b.toNat + 32) (by have := of_decide_eq_true h2; omega)
      rw [lowI, if_pos (by rw [h1, h2]; rfl)]
      exact congrArg (V.int .u8) e
    · (repeat (first | (refine Runs.step ?_; conv => whnf) | (refine condT ?_) | (refine condF ?_) | (refine chkT ?_) | (refine elemOK rfl ?_)))
      refine ⟨_, rfl, ?_, rfl⟩
      rw [lowI, if_neg (by rw [h2]; simp)]; rfl
  · (repeat (first | (refine Runs.step ?_; conv => whnf) | (refine condT ?_) | (refine condF ?_) | (refine chkT ?_) | (refine elemOK rfl ?_)))
    refine ⟨_, rfl, ?_, rfl⟩
    rw [lowI, if_neg (by rw [h1]; simp)]; rfl

theorem getD_at {s : Bytes} {i : Nat} (h : i < s.length) : s.getD (i : Int).toNat 0 = s[i] := by simp [List.getD, h]

/-- waybillref02.Has. -/
theorem ref_hasb (s : Bytes) (c : Int) (σ : Mem) (hl : s.length ≤ 4611686018427387904) : CallTo cfg 26 [.str s, .int .u8 c] σ (.bool (s.any fun y => (y.toNat : Int) == c)) σ := by
  refine CallR.walk .head (fn := Tryz.f26) ⟨rfl, rfl, rfl, rfl, rfl, rfl⟩ ?_
  (repeat (first | (refine Runs.step ?_; conv => whnf) | (refine condT ?_) | (refine condF ?_) | (refine chkT ?_) | (refine elemOK rfl ?_)))
  refine LoopR.walkS .head (fun n fr σ => ∃ (i : Nat), n = s.length - i ∧ (i ≤ s.length) ∧ (∀ (j : Nat) (h : j < s.length), j < i → ((s[j].toNat : Int) == c) = false) ∧ σ = [] ∧ matchF [some (.str s), some (.int .u8 c), none, none, none, some (.int .i64 i), none, none, none, none, none, none, none, none, none, none, none] fr) ?_ ?_
  · exact ⟨_, ⟨0, rfl, by omega, fun j _ hj => absurd hj (by omega), rfl, rfl, rfl, rfl, trivial⟩⟩
  · (rintro n fr σ ⟨i, rfl, h1, h2, rfl, hm⟩; obtain ⟨J, rfl⟩ := matchF_fill hm; clear hm)
    (refine Runs.step ?_; conv => whnf)
    refine ⟨fun h => ?_, fun h => ?_⟩
    · have hlt : i < s.length := by simpa using h
      (repeat (first | (refine Runs.step ?_; conv => whnf) | (refine condT ?_) | (refine condF ?_) | (refine chkT ?_) | (refine elemOK rfl ?_)))
      refine ⟨ltB_iff.2 (by omega), ?_⟩
      (repeat (first | (refine Runs.step ?_; conv => whnf) | (refine condT ?_) | (refine condF ?_) | (refine chkT ?_) | (refine elemOK rfl ?_)))
      refine ⟨fun h => ?_, fun h => ?_⟩
      · have h : (((s.getD (i : Int).toNat 0).toNat : Int) == c) = true := h
        rw [getD_at hlt] at h
        (repeat (first | (refine Runs.step ?_; conv => whnf) | (refine condT ?_) | (refine condF ?_) | (refine chkT ?_) | (refine elemOK rfl ?_)))
        exact ⟨_, rfl, by rw [any_hit hlt h]; rfl, rfl⟩
      · have h : (((s.getD (i : Int).toNat 0).toNat : Int) == c) = false := h
        rw [getD_at hlt] at h
        (repeat (first | (refine Runs.step ?_; conv => whnf) | (refine condT ?_) | (refine condF ?_) | (refine chkT ?_) | (refine elemOK rfl ?_)))
        rw [wrapS i (by omega)]
        refine ⟨_, ?_, ⟨i + 1, rfl, by omega, ?_, rfl, rfl, rfl, rfl, trivial⟩⟩
        · omega
        · intro j hj hji
          by_cases hj' : j = i
          · subst hj'; exact h
          · exact h2 j hj (by omega)
    · have hlt : i = s.length := by have : ¬ i < s.length := by simpa using h
                                    omega
      (repeat (first | (refine Runs.step ?_; conv => whnf) | (refine condT ?_) | (refine condF ?_) | (refine chkT ?_) | (refine elemOK rfl ?_)))
      exact ⟨_, rfl, by rw [any_miss fun j hj => h2 j hj (by omega)]; rfl, rfl⟩

/-- A byte that a relation may hold, beside the slash. -/
def okB (b : Int) : Bool := (decide (b ≥ 97) && decide (b ≤ 122)) || (decide (b ≥ 65) && decide (b ≤ 90)) || (decide (b ≥ 48) && decide (b ≤ 57)) || b == 95 || b == 46 || b == 45
def isS (b : UInt8) : Bool := (b.toNat : Int) == 47
def cnt (s : Bytes) : Nat := (s.filter isS).length
def relB (s : Bytes) : Bool := s.all (fun b => isS b || okB b.toNat) && cnt s == 1 && decide (s.length ≤ 100) && !isS (s.getD 0 0) && !isS (s.getD (s.length - 1) 0)

theorem okB_iff {b : Int} : okB b = true ↔ (b ≥ 97 ∧ b ≤ 122) ∨ (b ≥ 65 ∧ b ≤ 90) ∨ (b ≥ 48 ∧ b ≤ 57) ∨ b = 95 ∨ b = 46 ∨ b = 45 := by
  simp [okB, or_assoc]
theorem isS_iff {b : UInt8} : isS b = true ↔ (b.toNat : Int) = 47 := by simp [isS]

theorem relB_bad {s : Bytes} {i : Nat} (hi : i < s.length) (h1 : isS s[i] = false) (h2 : okB s[i].toNat = false) : relB s = false := by
  have : s.all (fun b => isS b || okB b.toNat) = false := by
    rw [List.all_eq_false]; exact ⟨s[i], List.getElem_mem hi, by simp [h1, h2]⟩
  simp only [relB, this, Bool.false_and]

theorem cnt_take {s : Bytes} {i : Nat} (hi : i < s.length) : cnt (s.take (i + 1)) = cnt (s.take i) + if isS s[i] = true then 1 else 0 := by
  rw [List.take_succ_eq_append_getElem hi, cnt, List.filter_append, List.length_append, cnt]
  by_cases h : isS s[i] = true <;> simp [h]

theorem cnt_le (s : Bytes) : cnt s ≤ s.length := List.length_filter_le _ _

theorem all_take {s : Bytes} {i : Nat} (hi : i < s.length) (h : (s.take i).all (fun b => isS b || okB b.toNat) = true) (h' : isS s[i] = true ∨ okB s[i].toNat = true) : (s.take (i + 1)).all (fun b => isS b || okB b.toNat) = true := by
  rw [List.take_succ_eq_append_getElem hi, List.all_append, h]
  rcases h' with h' | h' <;> simp [h']

theorem splitT {b : Bool} {P Q : Prop} (h1 : b = true → P) (h2 : b = false → Q) : (b = true → P) ∧ (b = false → Q) := ⟨h1, h2⟩

theorem relation (s : Bytes) (σ : Mem) (hl : s.length ≤ 300) : CallTo cfg 14 [.str s] σ (.bool (relB s)) σ := by
  refine CallR.walk .head (fn := Tryz.f14) ⟨rfl, rfl, rfl, rfl, rfl, rfl⟩ ?_
  (repeat (first | (refine Runs.step ?_; conv => whnf) | (refine condT ?_) | (refine condF ?_) | (refine chkT ?_) | (refine elemOK rfl ?_)))
  refine LoopR.walkS .head (fun n fr σ => ∃ (i : Nat) (m : Nat), n = s.length - i ∧ (i ≤ s.length) ∧ (m = cnt (s.take i)) ∧ ((s.take i).all (fun b => isS b || okB b.toNat) = true) ∧ σ = [] ∧ matchF [some (.str s), none, none, some (.int .i64 m), none, none, none, some (.row (s.map byteV)), some (.int .i64 (s.map byteV).length), some (.int .i64 i), none, none, none, none, none, none, none, none, none, none, none, none, none, none, none, none, none, none, none, none, none, none, none, none, none, none, none, none, none, none, none, none, none, none, none, none, none, none, none, none, none, none, none, none, none, none, none, none, none, none, none, none, none, none] fr) ?_ ?_
  · exact ⟨_, ⟨0, 0, rfl, by omega, rfl, rfl, rfl, rfl, rfl, rfl, rfl, rfl, trivial⟩⟩
  · (rintro n fr σ ⟨i, m, rfl, h1, h2, h3, rfl, hm⟩; obtain ⟨J, rfl⟩ := matchF_fill hm; clear hm)
    have hm := cnt_le (s.take i)
    rw [← h2, List.length_take] at hm
    (refine Runs.step ?_; conv => whnf)
    refine ⟨fun h => ?_, fun h => ?_⟩
    · have hlt : i < s.length := by simpa using h
      ((repeat (first | (refine Runs.step ?_; conv => whnf) | (refine condT ?_) | (refine condF ?_) | (refine chkT ?_) | (refine elemOK rfl ?_))); refine ⟨_, map_get (by simp) hlt, ?_⟩)
      (repeat (first | (refine Runs.step ?_; conv => whnf) | (refine condT ?_) | (refine condF ?_) | (refine chkT ?_) | (refine elemOK rfl ?_)))
      refine ⟨fun hs => ?_, fun hs => ?_⟩
      · have hs : isS s[i] = true := hs
        (repeat (first | (refine Runs.step ?_; conv => whnf) | (refine condT ?_) | (refine condF ?_) | (refine chkT ?_) | (refine elemOK rfl ?_)))
        rw [wrapS i (by omega), wrapS m (by omega)]
        refine ⟨_, ?_, ⟨i + 1, m + 1, rfl, by omega, by rw [cnt_take hlt, if_pos hs, h2], all_take hlt h3 (.inl hs), rfl, rfl, rfl, rfl, rfl, rfl, trivial⟩⟩
        omega
      · have hs : isS s[i] = false := hs
        clear h
        repeat' (first | (refine Runs.step ?_; conv => whnf) | (refine condT ?_) | (refine condF ?_) | (refine chkT ?_) | (refine elemOK rfl ?_) | (refine splitT (fun _ => ?_) (fun _ => ?_)))
        all_goals first
          | (have hok : okB s[i].toNat = true := by
               rw [okB_iff]; simp only [decide_eq_true_eq, decide_eq_false_iff_not, beq_iff_eq, beq_eq_false_iff_ne] at *; omega
             rw [wrapS i (by omega)]
             refine ⟨_, ?_, ⟨i + 1, m, rfl, by omega, by rw [cnt_take hlt, if_neg (by simp [hs]), h2]; rfl, all_take hlt h3 (.inr hok), rfl, rfl, rfl, rfl, rfl, rfl, trivial⟩⟩
             omega)
          | (have hok : okB s[i].toNat = false := by
               rw [Bool.eq_false_iff, Ne, okB_iff]; simp only [decide_eq_true_eq, decide_eq_false_iff_not, beq_iff_eq, beq_eq_false_iff_ne] at *; omega
             exact ⟨_, rfl, by rw [relB_bad hlt hs hok]; rfl, rfl⟩)
    · have hlt : i = s.length := by have : ¬ i < s.length := by simpa using h
                                    omega
      subst hlt
      rw [List.take_length] at h2 h3
      have e : relB s = (cnt s == 1 && decide (s.length ≤ 100) && !isS (s.getD 0 0) && !isS (s.getD (s.length - 1) 0)) := by rw [relB, h3, Bool.true_and]
      (repeat (first | (refine Runs.step ?_; conv => whnf) | (refine condT ?_) | (refine condF ?_) | (refine chkT ?_) | (refine elemOK rfl ?_)))
      refine ⟨fun hc => ?_, fun hc => ?_⟩
      · have hc : ((m : Int) == 1) = true := hc
        have hm1 : m = 1 := by simp at hc; omega
        have hlen : 0 < s.length := by omega
        (repeat (first | (refine Runs.step ?_; conv => whnf) | (refine condT ?_) | (refine condF ?_) | (refine chkT ?_) | (refine elemOK rfl ?_)))
        refine ⟨fun hd => ?_, fun hd => ?_⟩
        · have hd : s.length ≤ 100 := by have := of_decide_eq_true hd; omega
          (repeat (first | (refine Runs.step ?_; conv => whnf) | (refine condT ?_) | (refine condF ?_) | (refine chkT ?_) | (refine elemOK rfl ?_)))
          refine ⟨ltB_iff.2 (by omega), ?_⟩
          (repeat (first | (refine Runs.step ?_; conv => whnf) | (refine condT ?_) | (refine condF ?_) | (refine chkT ?_) | (refine elemOK rfl ?_)))
          refine ⟨fun hf => ?_, fun hf => ?_⟩
          · have hf := notT (b := isS (s.getD 0 0)) hf
            (repeat (first | (refine Runs.step ?_; conv => whnf) | (refine condT ?_) | (refine condF ?_) | (refine chkT ?_) | (refine elemOK rfl ?_)))
            rw [IntWalk.i64_in ((s.length : Int) - 1) (by omega)]
            refine ⟨ltB_iff.2 (by omega), ?_⟩
            (repeat (first | (refine Runs.step ?_; conv => whnf) | (refine condT ?_) | (refine condF ?_) | (refine chkT ?_) | (refine elemOK rfl ?_)))
            refine ⟨_, rfl, ?_, rfl⟩
            have ei : ((s.length : Int) - 1).toNat = s.length - 1 := by omega
            rw [e, ← h2, hm1, decide_eq_true hd, hf, ← ei]
            exact congrArg V.bool (Bool.true_and _).symm
          · have hf := notF (b := isS (s.getD 0 0)) hf
            (repeat (first | (refine Runs.step ?_; conv => whnf) | (refine condT ?_) | (refine condF ?_) | (refine chkT ?_) | (refine elemOK rfl ?_)))
            exact ⟨_, rfl, by rw [e, hf, Bool.not_true, Bool.and_false, Bool.false_and]; rfl, rfl⟩
        · have hd : ¬ s.length ≤ 100 := by have := of_decide_eq_false hd; omega
          (repeat (first | (refine Runs.step ?_; conv => whnf) | (refine condT ?_) | (refine condF ?_) | (refine chkT ?_) | (refine elemOK rfl ?_)))
          exact ⟨_, rfl, by rw [e, decide_eq_false hd, Bool.and_false, Bool.false_and, Bool.false_and]; rfl, rfl⟩
      · have hc : (cnt s == 1) = false := by
          rw [← h2]; have hc : ((m : Int) == 1) = false := hc
          simp at hc ⊢; omega
        (repeat (first | (refine Runs.step ?_; conv => whnf) | (refine condT ?_) | (refine condF ?_) | (refine chkT ?_) | (refine elemOK rfl ?_)))
        exact ⟨_, rfl, by rw [e, hc, Bool.false_and, Bool.false_and, Bool.false_and]; rfl, rfl⟩

def abc : Bytes := [97, 98, 99, 100, 101, 102, 103, 104, 105, 106, 107, 108, 109, 110, 111, 112, 113, 114, 115, 116, 117, 118, 119, 120, 121, 122, 48, 49, 50, 51, 52, 53, 54, 55, 56, 57, 95, 46, 45]

theorem any_abc (b : UInt8) : (abc.any fun y => (y.toNat : Int) == lowI b.toNat) = okB b.toNat := by
  have h : ∀ n : Nat, n < 256 → (abc.any fun y => (y.toNat : Int) == lowI (n : Int)) = okB (n : Int) := by decide +kernel
  exact h b.toNat b.toNat_lt

theorem has_abc (b : UInt8) (σ : Mem) : CallTo cfg 26 [.str abc, .int .u8 (lowI b.toNat)] σ (.bool (okB b.toNat)) σ := by
  have := ref_hasb abc (lowI b.toNat) σ (by simp [abc])
  rwa [any_abc] at this

theorem ref_relation (s : Bytes) (σ : Mem) (hl : s.length ≤ 300) : CallTo cfg 15 [.str s] σ (.bool (relB s)) σ := by
  refine CallR.walk .head (fn := Tryz.f15) ⟨rfl, rfl, rfl, rfl, rfl, rfl⟩ ?_
  (repeat (first | (refine Runs.step ?_; conv => whnf) | (refine condT ?_) | (refine condF ?_) | (refine chkT ?_) | (refine elemOK rfl ?_)))
  refine LoopR.walkS .head (fun n fr σ => ∃ (i : Nat) (m : Nat) (at' : Int), n = s.length - i ∧ (i ≤ s.length) ∧ (m = cnt (s.take i)) ∧ ((s.take i).all (fun b => isS b || okB b.toNat) = true) ∧ ((m = 0 → at' = -1 ∧ ∀ (j : Nat) (h : j < s.length), j < i → isS s[j] = false)) ∧ ((m = 1 → ∀ (j : Nat) (h : j < s.length), j < i → isS s[j] = true → (j : Int) = at')) ∧ ((1 ≤ m → 0 ≤ at' ∧ at' < i ∧ isS (s.getD at'.toNat 0) = true)) ∧ σ = [] ∧ matchF [some (.str s), none, none, some (.int .i64 at'), some (.int .i64 m), some (.int .i64 i), none, none, none, none, none, none, none, none, none, none, none, none, none, none, none, none, none, none, none, none, none, none, none, none, none, none, none, none, none, none, none, none, none, none, none, none, none] fr) ?_ ?_
  · exact ⟨_, ⟨0, 0, -1, rfl, by omega, rfl, rfl, fun _ => ⟨rfl, fun j _ hj => absurd hj (by omega)⟩, fun h => absurd h (by omega), fun h => absurd h (by omega), rfl, rfl, rfl, rfl, rfl, trivial⟩⟩
  · (rintro n fr σ ⟨i, m, at', rfl, h1, h2, h3, h4, h5, h6, rfl, hm⟩; obtain ⟨J, rfl⟩ := matchF_fill hm; clear hm)
    have hm := cnt_le (s.take i)
    rw [← h2, List.length_take] at hm
    (refine Runs.step ?_; conv => whnf)
    refine ⟨fun h => ?_, fun h => ?_⟩
    · have hlt : i < s.length := by simpa using h
      (repeat (first | (refine Runs.step ?_; conv => whnf) | (refine condT ?_) | (refine condF ?_) | (refine chkT ?_) | (refine elemOK rfl ?_)))
      refine ⟨ltB_iff.2 (by omega), ?_⟩
      (repeat (first | (refine Runs.step ?_; conv => whnf) | (refine condT ?_) | (refine condF ?_) | (refine chkT ?_) | (refine elemOK rfl ?_)))
      refine ⟨fun hs => ?_, fun hs => ?_⟩
      · have hs : isS (s.getD (i : Int).toNat 0) = true := hs
        have hs0 := hs
        rw [getD_at hlt] at hs
        (repeat (first | (refine Runs.step ?_; conv => whnf) | (refine condT ?_) | (refine condF ?_) | (refine chkT ?_) | (refine elemOK rfl ?_)))
        rw [wrapS i (by omega), wrapS m (by omega)]
        refine ⟨_, ?_, ⟨i + 1, m + 1, (i : Int), rfl, by omega, by rw [cnt_take hlt, if_pos hs, h2], all_take hlt h3 (.inl hs), fun h => absurd h (by omega), ?_, fun _ => ⟨by omega, by omega, hs0⟩, rfl, rfl, rfl, rfl, rfl, trivial⟩⟩
        · omega
        · intro h0 j hj hji hsj
          by_cases hj' : j = i
          · rw [hj']
          · rw [(h4 (by omega)).2 j hj (by omega)] at hsj; cases hsj
      · have hs : isS (s.getD (i : Int).toNat 0) = false := hs
        rw [getD_at hlt] at hs
        (repeat (first | (refine Runs.step ?_; conv => whnf) | (refine condT ?_) | (refine condF ?_) | (refine chkT ?_) | (refine elemOK rfl ?_)))
        refine ⟨ltB_iff.2 (by omega), ?_⟩
        (repeat (first | (refine Runs.step ?_; conv => whnf) | (refine condT ?_) | (refine condF ?_) | (refine chkT ?_) | (refine elemOK rfl ?_)))
        have eb : s.getD (i : Int).toNat 0 = s[i] := getD_at hlt
        refine (ref_small _ _).use ?_
        (repeat (first | (refine Runs.step ?_; conv => whnf) | (refine condT ?_) | (refine condF ?_) | (refine chkT ?_) | (refine elemOK rfl ?_)))
        refine (has_abc _ _).use ?_
        rw [eb]
        generalize hb : okB s[i].toNat = b
        cases b
        · (repeat (first | (refine Runs.step ?_; conv => whnf) | (refine condT ?_) | (refine condF ?_) | (refine chkT ?_) | (refine elemOK rfl ?_)))
          exact ⟨_, rfl, by rw [relB_bad hlt hs hb]; rfl, rfl⟩
        · (repeat (first | (refine Runs.step ?_; conv => whnf) | (refine condT ?_) | (refine condF ?_) | (refine chkT ?_) | (refine elemOK rfl ?_)))
          rw [wrapS i (by omega)]
          refine ⟨_, ?_, ⟨i + 1, m, at', rfl, by omega, by rw [cnt_take hlt, if_neg (by simp [hs]), h2]; rfl, all_take hlt h3 (.inr hb), ?_, ?_, ?_, rfl, rfl, rfl, rfl, rfl, trivial⟩⟩
          · omega
          · intro h0
            refine ⟨(h4 h0).1, fun j hj hji => ?_⟩
            by_cases hj' : j = i
            · subst hj'; exact hs
            · exact (h4 h0).2 j hj (by omega)
          · intro h0 j hj hji hsj
            by_cases hj' : j = i
            · subst hj'; rw [hs] at hsj; cases hsj
            · exact h5 h0 j hj (by omega) hsj
          · intro h0
            obtain ⟨g1, g2, g3⟩ := h6 h0
            exact ⟨g1, by omega, g3⟩
    · have hlt : i = s.length := by have : ¬ i < s.length := by simpa using h
                                    omega
      subst hlt
      rw [List.take_length] at h2 h3
      have e : relB s = (cnt s == 1 && decide (s.length ≤ 100) && !isS (s.getD 0 0) && !isS (s.getD (s.length - 1) 0)) := by rw [relB, h3, Bool.true_and]
      (repeat (first | (refine Runs.step ?_; conv => whnf) | (refine condT ?_) | (refine condF ?_) | (refine chkT ?_) | (refine elemOK rfl ?_)))
      refine ⟨fun hc => ?_, fun hc => ?_⟩
      · have hc : ((m : Int) == 1) = true := hc
        have hm1 : m = 1 := by simp at hc; omega
        have hlen : 0 < s.length := by omega
        obtain ⟨g1, g2, g3⟩ := h6 (by omega)
        have ea : s.getD 0 0 = s[0] := getD_at hlen
        have ez : s.getD (s.length - 1) 0 = s[s.length - 1] := getD_at (i := s.length - 1) (by omega)
        (repeat (first | (refine Runs.step ?_; conv => whnf) | (refine condT ?_) | (refine condF ?_) | (refine chkT ?_) | (refine elemOK rfl ?_)))
        refine ⟨fun hd => ?_, fun hd => ?_⟩
        · have hd : at' > 0 := of_decide_eq_true hd
          have hf : isS (s.getD 0 0) = false := by
            rw [ea, Bool.eq_false_iff]; intro hh
            have := h5 hm1 0 hlen hlen hh
            omega
          (repeat (first | (refine Runs.step ?_; conv => whnf) | (refine condT ?_) | (refine condF ?_) | (refine chkT ?_) | (refine elemOK rfl ?_)))
          rw [IntWalk.i64_in ((s.length : Int) - 1) (by omega)]
          refine ⟨fun hg => ?_, fun hg => ?_⟩
          · have hg : at' < (s.length : Int) - 1 := of_decide_eq_true hg
            have hz : isS (s.getD (s.length - 1) 0) = false := by
              rw [ez, Bool.eq_false_iff]; intro hh
              have := h5 hm1 (s.length - 1) (by omega) (by omega) hh
              omega
            (repeat (first | (refine Runs.step ?_; conv => whnf) | (refine condT ?_) | (refine condF ?_) | (refine chkT ?_) | (refine elemOK rfl ?_)))
            refine ⟨_, rfl, ?_, rfl⟩
            rw [e, ← h2, hm1, hf, hz]
            refine congrArg V.bool ?_
            simp; omega
          · have hg : ¬ at' < (s.length : Int) - 1 := of_decide_eq_false hg
            have hz : isS (s.getD (s.length - 1) 0) = true := by
              have : at'.toNat = s.length - 1 := by omega
              rw [← this]; exact g3
            (repeat (first | (refine Runs.step ?_; conv => whnf) | (refine condT ?_) | (refine condF ?_) | (refine chkT ?_) | (refine elemOK rfl ?_)))
            exact ⟨_, rfl, by rw [e, hz, Bool.not_true, Bool.and_false]; rfl, rfl⟩
        · have hd : ¬ at' > 0 := of_decide_eq_false hd
          have hf : isS (s.getD 0 0) = true := by
            have : at'.toNat = 0 := by omega
            rw [← this]; exact g3
          (repeat (first | (refine Runs.step ?_; conv => whnf) | (refine condT ?_) | (refine condF ?_) | (refine chkT ?_) | (refine elemOK rfl ?_)))
          exact ⟨_, rfl, by rw [e, hf, Bool.not_true, Bool.and_false, Bool.false_and]; rfl, rfl⟩
      · have hc : (cnt s == 1) = false := by
          rw [← h2]; have hc : ((m : Int) == 1) = false := hc
          simp at hc ⊢; omega
        (repeat (first | (refine Runs.step ?_; conv => whnf) | (refine condT ?_) | (refine condF ?_) | (refine chkT ?_) | (refine elemOK rfl ?_)))
        exact ⟨_, rfl, by rw [e, hc, Bool.false_and, Bool.false_and, Bool.false_and]; rfl, rfl⟩
end MI.Tryz

