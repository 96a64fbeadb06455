/-
  A part of the proof that the law answers true for every input: LkE. Conditions: those of each theorem.
-/
import Derived.Test.YtkgpmnghdmcinaaGreatDoorToldL
import Derived.Test.YtkgpmnghdmcinaaGreatDoorCoreC
import Derived.Test.YtkgpmnghdmcinaaGreatDoorCards
import Derived.Test.YtkgpmnghdmcinaaGreatDoorTie
import Derived.ProofKit
import Derived.LaidMore
import Derived.Lay
import Derived.LaidHandle
import Derived.SevenTiedAt
set_option linter.all false
set_option autoImplicit true
namespace MI.Tryz
open Go Go.Proofs Go.Proofs.YtkgpmnghdmcinaaGreatDoor MI Go.ChangeShapes Go.WideShapes Go.ChangeAt Go.RowKit
set_option maxRecDepth 100000

theorem own : ownKnob Tryz.prog.godebug = none := by kernel_rfl
theorem laidOut : laidOutB Tryz.prog = true := by kernel_rfl

def laidP : List (String × DataW Unit) := [("unicode/utf8.acceptRanges", Rows.laid_unicode_utf8_acceptRanges), ("waybill/label.allowed", Rows.laid_waybill_label_allowed), ("waybill/scan.words", Rows.laid_waybill_scan_words), ("unicode/utf8.first", Rows.laid_unicode_utf8_first)]
def laidL : List (String × DataW Unit) := [("unicode/utf8.acceptRanges", Rows.laid_unicode_utf8_acceptRanges), ("errors.errorType", Rows.laid_errors_errorType), ("waybill/label.allowed", Rows.laid_waybill_label_allowed), ("waybill/scan.words", Rows.laid_waybill_scan_words), ("unicode/utf8.first", Rows.laid_unicode_utf8_first)]
theorem laid_plain : (laidL.filter fun x => x.2.handleName?.isNone) = laidP := by kernel_rfl

/-- A start at which every listed variable lies as it should. -/
noncomputable def laidWorld (os : Os) : World :=
  let w0 := World.laidAll Tryz.prog os laidP
  { w0 with heap := w0.heap.modify 0 fun
      | .cells _ t fz => .cells #[.iface 148 (.agg #[.pointer (some ⟨6, 38, none⟩)])] t fz
      | o => o }
theorem laid_met (os : Os) (args : Array Value) : laidMetH Tryz.prog laidL ((laidWorld os).forCall (fun _ _ => 0) ⟨#[], args, []⟩).memory :=
  laidMetH_of_parts3 (fuel := 8) (laidMet_of_run' 8 (by kernel_rfl) (by kernel_rfl)) (by kernel_rfl) (by kernel_rfl)
theorem laid_shaped (os : Os) (args : Array Value) : ((laidWorld os).forCall (fun _ _ => 0) ⟨#[], args, []⟩).Shaped Tryz.prog := World.shaped_of_ZipB (by kernel_rfl) (by kernel_rfl)

theorem glob_ok {W : World} (h : laidMetH Tryz.prog laidL W) : GlobOK cfg W.cell? := by
  have h' : laidMet Tryz.prog laidP W := by
    rw [← laid_plain]
    exact (show _ ∧ _ from h).1
  obtain ⟨ps, ⟨g0, t0, cs0, f0, p0, q0, hg0, ht0, hv0, hd0, ⟨g1, t1, cs1, f1, p1, q1, hg1, ht1, hv1, hd1, ⟨g2, t2, cs2, f2, p2, q2, hg2, ht2, hv2, hd2, ⟨g3, t3, cs3, f3, p3, q3, hg3, ht3, hv3, hd3, _, _⟩, _⟩, _⟩, _⟩, _, _⟩ := h'
  obtain rfl := Option.some.inj ((show Tryz.prog.globalNamed "unicode/utf8.acceptRanges" = some 4 by kernel_rfl).symm.trans hg0)
  obtain rfl := Option.some.inj ((show Tryz.prog.globalNamed "waybill/label.allowed" = some 5 by kernel_rfl).symm.trans hg1)
  obtain rfl := Option.some.inj ((show Tryz.prog.globalNamed "waybill/scan.words" = some 1 by kernel_rfl).symm.trans hg2)
  obtain rfl := Option.some.inj ((show Tryz.prog.globalNamed "unicode/utf8.first" = some 3 by kernel_rfl).symm.trans hg3)
  obtain rfl := Option.some.inj ((show (Tryz.prog.globals[4]?).map (·.type) = some 297 by kernel_rfl).symm.trans ht0)
  obtain rfl := Option.some.inj ((show (Tryz.prog.globals[5]?).map (·.type) = some 322 by kernel_rfl).symm.trans ht1)
  obtain rfl := Option.some.inj ((show (Tryz.prog.globals[1]?).map (·.type) = some 203 by kernel_rfl).symm.trans ht2)
  obtain rfl := Option.some.inj ((show (Tryz.prog.globals[3]?).map (·.type) = some 294 by kernel_rfl).symm.trans ht3)
  intro g v hg
  have all : globT.All fun g v => ∃ cvs, Holds W.cell? g 0 cvs ∧ RelL cfg W.cell? [] v.cells cvs ∧ oneL v.cells = true :=
    ⟨glob_one (C := cfg) good hg0 hv0 hd0 5 (by kernel_rfl) (by kernel_rfl) (by kernel_rfl),
     ⟨glob_one (C := cfg) good hg3 hv3 hd3 5 (by kernel_rfl) (by kernel_rfl) (by kernel_rfl), ⟨glob_one (C := cfg) good hg2 hv2 hd2 5 (by kernel_rfl) (by kernel_rfl) (by kernel_rfl), trivial, trivial⟩, trivial⟩,
     ⟨glob_one (C := cfg) good hg1 hv1 hd1 5 (by kernel_rfl) (by kernel_rfl) (by kernel_rfl), trivial, trivial⟩⟩
  exact Tr.all_get all hg
end MI.Tryz

