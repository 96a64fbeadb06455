/-
  A part of the proof that the law answers true for every input: SpkL. Conditions: those of each theorem.
-/
import Derived.Test.YtkgpmnghdmcinaaGreatDoorSpkA
set_option linter.all false
set_option autoImplicit true
namespace MI.Tryz
open Go Go.Proofs MI
set_option maxRecDepth 1000000
def exList : V := .tuple [.row [.agg [.int .i64 1, .row [], .str [], .row [], .str [104, 116, 116, 112, 115, 58, 47, 47, 120, 46, 99, 111, 109, 47, 97]]], .niliface]
theorem exDecode (σ : Mem) : CallTo cfg 20 [.row exDoc] σ exList σ := by
  refine CallR.walk .deep (fn := Tryz.f20) ⟨rfl, rfl, rfl, rfl, rfl, rfl⟩ ?_
  refine Runs.step ?_
  conv => whnf
  refine exParse.use ?_
  refine Runs.closedLow (P := fun x s => x = exList ∧ s = σ) 300 exList ?_ ?_ ?_
  · kernel_rfl
  · rfl
  · exact ⟨rfl, rfl⟩

theorem speaks0 : CallTo cfg 7 [] [] (.bool true) [] := by
  refine CallR.walk .head (fn := Tryz.f7) ⟨rfl, rfl, rfl, rfl, rfl, rfl⟩ ?_
  refine Runs.step ?_
  conv => whnf
  refine CallR.frz rfl rfl rfl ?_
  refine (exDecode _).use ?_
  repeat (first | (refine Runs.step ?_; conv => whnf) | (refine condT ?_) | (refine condF ?_) | (refine chkT ?_) | (refine elemOK rfl ?_))
  exact ⟨_, rfl, rfl, rfl⟩
end MI.Tryz

