/-
  NARROWER THAN 'FOR EVERY INPUT', by the rows' own cells (each row's printed sentence says how): LinksMore: laid · LinksPrints: laid · LinksGrants: laid · LinksWrites: laid.
  DERIVED. THE GIVEN ROWS OF THIS SEAT. 4 by the template 'for every input the law returns true; each argument reads behind the call as it read before'; 0 by the template 'total and deterministic' (their statements: YtkgpmnghdmcinaaGreatDoorTotals.lean).
  GIVEN WITH THE SEED: the statements are not yours to turn. If you find one false, say at which input.
  Laid BY PROGRAM, IN A SANDBOX (cutbox-rows.mjs): the forced cells as the released guide's own fill.sh prints them over the translation 947507fb865ef6b9… (all of the seat's roots in one cut). By AI agents, Wed Nov 11 2026. No macro, syntax, notation, axiom, sorry.
-/
import Derived.Test.YtkgpmnghdmcinaaGreatDoorChecked
import GoSem.PinnedTables
import GoSem.Claim
import GoSem.ClaimJoined
import GoSem.ClaimMapViews
import Derived.JoinedTies
import Derived.KernelRfl
namespace Go.Proofs.YtkgpmnghdmcinaaGreatDoor
/- THE CELL 'sum', in the pinned program and in every row, IS THE sha256 OF THE DUMP (.gsa) THAT YtkgpmnghdmcinaaGreatDoorProg.lean LOADS. Nothing in Lean hashes anything: it is a label: what it is worth is what the hold of that sum in a sandbox is worth. -/
noncomputable def Tryz.pinned : Pinned := { name := "ytkgpmnghdmcinaagreatdoor", sum := "947507fb865ef6b91bca34e734f9690702ef57f8babe711bb3a8729d17f1bb06", checked := Tryz.checked }
namespace Rows
def none {H : Type} : Left H := { results := [], args := [] }

/- WHAT THE LISTED PACKAGE-LEVEL VARIABLES READ AS WHEN THE CALL BEGINS. Each datum BY PROGRAM (the guide's laid-datum.mjs) off the statement by which the dump's own 'gosem.cut.vars' lays the variable. In a bare row this is a premise. The card (YtkgpmnghdmcinaaGreatDoorCards.lean) ties it to the program's text. -/
def laid_unicode_utf8_acceptRanges {H : Type} : DataW H := .agg [.agg [.lit (.int .u8 128), .lit (.int .u8 191)], .agg [.lit (.int .u8 160), .lit (.int .u8 191)], .agg [.lit (.int .u8 128), .lit (.int .u8 159)], .agg [.lit (.int .u8 144), .lit (.int .u8 191)], .agg [.lit (.int .u8 128), .lit (.int .u8 143)], .agg [.lit (.int .u8 0), .lit (.int .u8 0)], .agg [.lit (.int .u8 0), .lit (.int .u8 0)], .agg [.lit (.int .u8 0), .lit (.int .u8 0)], .agg [.lit (.int .u8 0), .lit (.int .u8 0)], .agg [.lit (.int .u8 0), .lit (.int .u8 0)], .agg [.lit (.int .u8 0), .lit (.int .u8 0)], .agg [.lit (.int .u8 0), .lit (.int .u8 0)], .agg [.lit (.int .u8 0), .lit (.int .u8 0)], .agg [.lit (.int .u8 0), .lit (.int .u8 0)], .agg [.lit (.int .u8 0), .lit (.int .u8 0)], .agg [.lit (.int .u8 0), .lit (.int .u8 0)]]
def laid_errors_errorType {H : Type} : DataW H := .iface "internal/reflectlite.rtype" (.agg [.ptr (.lit (.string [101, 114, 114, 111, 114]))])
def laid_waybill_label_allowed {H : Type} : DataW H := .agg [.agg [.lit (.int .i64 223), .lit (.int .i64 246)], .agg [.lit (.int .i64 248), .lit (.int .i64 8191)], .agg [.lit (.int .i64 11264), .lit (.int .i64 12287)], .agg [.lit (.int .i64 12293), .lit (.int .i64 55295)], .agg [.lit (.int .i64 63744), .lit (.int .i64 64975)], .agg [.lit (.int .i64 65008), .lit (.int .i64 65023)], .agg [.lit (.int .i64 65536), .lit (.int .i64 262143)]]
def laid_waybill_scan_words {H : Type} : DataW H := .agg [.agg [.lit (.string [116, 114, 117, 101]), .lit (.int .i64 9)], .agg [.lit (.string [102, 97, 108, 115, 101]), .lit (.int .i64 10)], .agg [.lit (.string [110, 117, 108, 108]), .lit (.int .i64 11)]]
/-- One of Go's own tables, pinned by name: the form's constant. -/
def laid_unicode_utf8_first : DataW Unit := Go.Pinned.utf8First

/-- 'waybilllaw22.LinksMore': WHATEVER THE INPUT: true; the input reads as it did. -/
def linksMoreSpec : ChangeSpec := { name := "linksMore", fn := fun _ => fun
  | [d1, d2, d3, d4, d5] => { results := [.lit (.bool true)], args := [d1, d2, d3, d4, d5] }
  | _ => none }
def linksMoreRow : OpenClaim := { program := "ytkgpmnghdmcinaagreatdoor", sum := "947507fb865ef6b91bca34e734f9690702ef57f8babe711bb3a8729d17f1bb06", func := "waybill/waybilllaw22.LinksMore", spec := "linksMore", inPlace := ["internal/bytealg.IndexByteString", "math/bits.Add64", "internal/reflectlite.TypeOf", "internal/bytealg.IndexString", "internal/reflectlite.ValueOf", "(internal/reflectlite.Value).Type", "(internal/reflectlite.Value).IsNil", "(internal/reflectlite.Value).Elem", "(internal/reflectlite.Value).Set", "internal/bytealg.CountString", "internal/abi.NoEscape", "internal/bytealg.MakeNoZero", "slices.overlaps[int]"], unfollowed := true, recurses := true, named := ["waybill/scan.words", "unicode/utf8.first", "unicode/utf8.acceptRanges", "internal/bytealg.MaxLen", "errors.errorType", "waybill/label.allowed"], apart := false, laid := [("unicode/utf8.acceptRanges", laid_unicode_utf8_acceptRanges), ("errors.errorType", laid_errors_errorType), ("waybill/label.allowed", laid_waybill_label_allowed), ("waybill/scan.words", laid_waybill_scan_words), ("unicode/utf8.first", laid_unicode_utf8_first)] }
def LinksMoreSaid : Prop := linksMoreRow.holds Tryz.pinned (OpenSpec.ofChange linksMoreSpec)

/-- ITS FALSE NEIGHBOUR: 'it returns false'. Refute it at one input. -/
def linksMoreWrong : ChangeSpec := { name := "linksMore", fn := fun _ => fun
  | [d1, d2, d3, d4, d5] => { results := [.lit (.bool false)], args := [d1, d2, d3, d4, d5] }
  | _ => none }
def LinksMoreWrongFalsely : Prop := linksMoreRow.holds Tryz.pinned (OpenSpec.ofChange linksMoreWrong)

/-- 'waybilllaw22.LinksPrints': WHATEVER THE INPUT: true; the input reads as it did. -/
def linksPrintsSpec : ChangeSpec := { name := "linksPrints", fn := fun _ => fun
  | [d1, d2, d3] => { results := [.lit (.bool true)], args := [d1, d2, d3] }
  | _ => none }
def linksPrintsRow : OpenClaim := { program := "ytkgpmnghdmcinaagreatdoor", sum := "947507fb865ef6b91bca34e734f9690702ef57f8babe711bb3a8729d17f1bb06", func := "waybill/waybilllaw22.LinksPrints", spec := "linksPrints", inPlace := ["internal/bytealg.IndexByteString", "math/bits.Add64", "internal/reflectlite.TypeOf", "internal/bytealg.IndexString", "internal/reflectlite.ValueOf", "(internal/reflectlite.Value).Type", "(internal/reflectlite.Value).IsNil", "(internal/reflectlite.Value).Elem", "(internal/reflectlite.Value).Set", "internal/bytealg.CountString", "internal/abi.NoEscape", "internal/bytealg.MakeNoZero", "slices.overlaps[int]"], unfollowed := true, recurses := true, named := ["waybill/scan.words", "unicode/utf8.first", "unicode/utf8.acceptRanges", "internal/bytealg.MaxLen", "errors.errorType", "waybill/label.allowed"], apart := false, laid := [("unicode/utf8.acceptRanges", laid_unicode_utf8_acceptRanges), ("errors.errorType", laid_errors_errorType), ("waybill/label.allowed", laid_waybill_label_allowed), ("waybill/scan.words", laid_waybill_scan_words), ("unicode/utf8.first", laid_unicode_utf8_first)] }
def LinksPrintsSaid : Prop := linksPrintsRow.holds Tryz.pinned (OpenSpec.ofChange linksPrintsSpec)

/-- ITS FALSE NEIGHBOUR: 'it returns false'. Refute it at one input. -/
def linksPrintsWrong : ChangeSpec := { name := "linksPrints", fn := fun _ => fun
  | [d1, d2, d3] => { results := [.lit (.bool false)], args := [d1, d2, d3] }
  | _ => none }
def LinksPrintsWrongFalsely : Prop := linksPrintsRow.holds Tryz.pinned (OpenSpec.ofChange linksPrintsWrong)

/-- 'waybilllaw22.LinksGrants': WHATEVER THE INPUT: true; the input reads as it did. -/
def linksGrantsSpec : ChangeSpec := { name := "linksGrants", fn := fun _ => fun
  | [d1, d2, d3, d4] => { results := [.lit (.bool true)], args := [d1, d2, d3, d4] }
  | _ => none }
def linksGrantsRow : OpenClaim := { program := "ytkgpmnghdmcinaagreatdoor", sum := "947507fb865ef6b91bca34e734f9690702ef57f8babe711bb3a8729d17f1bb06", func := "waybill/waybilllaw22.LinksGrants", spec := "linksGrants", inPlace := ["internal/bytealg.IndexByteString", "math/bits.Add64", "internal/reflectlite.TypeOf", "internal/bytealg.IndexString", "internal/reflectlite.ValueOf", "(internal/reflectlite.Value).Type", "(internal/reflectlite.Value).IsNil", "(internal/reflectlite.Value).Elem", "(internal/reflectlite.Value).Set", "internal/bytealg.CountString", "internal/abi.NoEscape", "internal/bytealg.MakeNoZero", "slices.overlaps[int]"], unfollowed := true, recurses := true, named := ["waybill/scan.words", "unicode/utf8.first", "unicode/utf8.acceptRanges", "internal/bytealg.MaxLen", "errors.errorType", "waybill/label.allowed"], apart := false, laid := [("unicode/utf8.acceptRanges", laid_unicode_utf8_acceptRanges), ("errors.errorType", laid_errors_errorType), ("waybill/label.allowed", laid_waybill_label_allowed), ("waybill/scan.words", laid_waybill_scan_words), ("unicode/utf8.first", laid_unicode_utf8_first)] }
def LinksGrantsSaid : Prop := linksGrantsRow.holds Tryz.pinned (OpenSpec.ofChange linksGrantsSpec)

/-- ITS FALSE NEIGHBOUR: 'it returns false'. Refute it at one input. -/
def linksGrantsWrong : ChangeSpec := { name := "linksGrants", fn := fun _ => fun
  | [d1, d2, d3, d4] => { results := [.lit (.bool false)], args := [d1, d2, d3, d4] }
  | _ => none }
def LinksGrantsWrongFalsely : Prop := linksGrantsRow.holds Tryz.pinned (OpenSpec.ofChange linksGrantsWrong)

/-- 'waybilllaw22.LinksWrites': WHATEVER THE INPUT: true; the input reads as it did. -/
def linksWritesSpec : ChangeSpec := { name := "linksWrites", fn := fun _ => fun
  | [d] => { results := [.lit (.bool true)], args := [d] }
  | _ => none }
def linksWritesRow : OpenClaim := { program := "ytkgpmnghdmcinaagreatdoor", sum := "947507fb865ef6b91bca34e734f9690702ef57f8babe711bb3a8729d17f1bb06", func := "waybill/waybilllaw22.LinksWrites", spec := "linksWrites", inPlace := ["internal/bytealg.IndexByteString", "math/bits.Add64", "internal/reflectlite.TypeOf", "internal/bytealg.IndexString", "internal/reflectlite.ValueOf", "(internal/reflectlite.Value).Type", "(internal/reflectlite.Value).IsNil", "(internal/reflectlite.Value).Elem", "(internal/reflectlite.Value).Set", "internal/bytealg.CountString", "internal/abi.NoEscape", "internal/bytealg.MakeNoZero", "slices.overlaps[int]", "internal/bytealg.abigen_runtime_cmpstring"], unfollowed := true, recurses := true, named := ["waybill/scan.words", "unicode/utf8.first", "unicode/utf8.acceptRanges", "internal/bytealg.MaxLen", "errors.errorType", "waybill/label.allowed"], apart := false, laid := [("unicode/utf8.acceptRanges", laid_unicode_utf8_acceptRanges), ("errors.errorType", laid_errors_errorType), ("waybill/label.allowed", laid_waybill_label_allowed), ("waybill/scan.words", laid_waybill_scan_words), ("unicode/utf8.first", laid_unicode_utf8_first)] }
def LinksWritesSaid : Prop := linksWritesRow.holds Tryz.pinned (OpenSpec.ofChange linksWritesSpec)

/-- ITS FALSE NEIGHBOUR: 'it returns false'. Refute it at one input. -/
def linksWritesWrong : ChangeSpec := { name := "linksWrites", fn := fun _ => fun
  | [d] => { results := [.lit (.bool false)], args := [d] }
  | _ => none }
def LinksWritesWrongFalsely : Prop := linksWritesRow.holds Tryz.pinned (OpenSpec.ofChange linksWritesWrong)

/- THE SECOND FORM. 'bulk': how many values and letters a reading holds, each counted each time it is reached (what is shared counts as often as it is met; a slice's spare places count too). A statement '..UptoSaid' is the law's where the arguments, and the package variables that the reading takes, are together of bulk at most 1048576: NARROWER than '..Said'. Prove '..Said' where nothing that the law and all that it calls make is longer than what came in: it says more and counts as full. Else prove '..UptoSaid'. A law counts once. -/
mutual
def uptoBulk {H : Type} : DataW H → Nat
  | .lit (.string bytes) => bytes.length + 1
  | .lit _ => 1
  | .nil => 1
  | .ptr d => uptoBulk d + 1
  | .slice elems spare => uptoBulkAll elems + uptoBulkAll spare + 1
  | .agg parts => uptoBulkAll parts + 1
  | .iface _ d => uptoBulk d + 1
  | .map entries => uptoBulkEntries entries + 1
  | .held _ => 1
def uptoBulkAll {H : Type} : List (DataW H) → Nat
  | [] => 0
  | d :: r => uptoBulk d + uptoBulkAll r
def uptoBulkEntries {H : Type} : List (Lit × DataW H) → Nat
  | [] => 0
  | x :: r => uptoBulkEntry x + uptoBulkEntries r
def uptoBulkEntry {H : Type} : Lit × DataW H → Nat
  | (.string bytes, d) => bytes.length + uptoBulk d + 1
  | (_, d) => uptoBulk d + 1
 end
def uptoSmall : (H : Type) → List (DataW H) → Bool := fun _ ds => decide (uptoBulkAll ds ≤ 1048576)
def OpenSpec.upto (s : _root_.Go.ChangeSpec) : _root_.Go.OpenSpec := { _root_.Go.OpenSpec.ofChange s with cond := some uptoSmall }

/-- 'waybilllaw22.LinksMore', WHERE WHAT IT READS IS OF BULK AT MOST 1048576: true; the input reads as it did. -/
def linksMoreUptoRow : OpenClaim := { program := "ytkgpmnghdmcinaagreatdoor", sum := "947507fb865ef6b91bca34e734f9690702ef57f8babe711bb3a8729d17f1bb06", func := "waybill/waybilllaw22.LinksMore", spec := "linksMore", inPlace := ["internal/bytealg.IndexByteString", "math/bits.Add64", "internal/reflectlite.TypeOf", "internal/bytealg.IndexString", "internal/reflectlite.ValueOf", "(internal/reflectlite.Value).Type", "(internal/reflectlite.Value).IsNil", "(internal/reflectlite.Value).Elem", "(internal/reflectlite.Value).Set", "internal/bytealg.CountString", "internal/abi.NoEscape", "internal/bytealg.MakeNoZero", "slices.overlaps[int]"], unfollowed := true, recurses := true, named := ["waybill/scan.words", "unicode/utf8.first", "unicode/utf8.acceptRanges", "internal/bytealg.MaxLen", "errors.errorType", "waybill/label.allowed"], apart := false, laid := [("unicode/utf8.acceptRanges", laid_unicode_utf8_acceptRanges), ("errors.errorType", laid_errors_errorType), ("waybill/label.allowed", laid_waybill_label_allowed), ("waybill/scan.words", laid_waybill_scan_words), ("unicode/utf8.first", laid_unicode_utf8_first)], narrowed := true }
def LinksMoreUptoSaid : Prop := linksMoreUptoRow.holds Tryz.pinned (OpenSpec.upto linksMoreSpec)

/-- 'waybilllaw22.LinksPrints', WHERE WHAT IT READS IS OF BULK AT MOST 1048576: true; the input reads as it did. -/
def linksPrintsUptoRow : OpenClaim := { program := "ytkgpmnghdmcinaagreatdoor", sum := "947507fb865ef6b91bca34e734f9690702ef57f8babe711bb3a8729d17f1bb06", func := "waybill/waybilllaw22.LinksPrints", spec := "linksPrints", inPlace := ["internal/bytealg.IndexByteString", "math/bits.Add64", "internal/reflectlite.TypeOf", "internal/bytealg.IndexString", "internal/reflectlite.ValueOf", "(internal/reflectlite.Value).Type", "(internal/reflectlite.Value).IsNil", "(internal/reflectlite.Value).Elem", "(internal/reflectlite.Value).Set", "internal/bytealg.CountString", "internal/abi.NoEscape", "internal/bytealg.MakeNoZero", "slices.overlaps[int]"], unfollowed := true, recurses := true, named := ["waybill/scan.words", "unicode/utf8.first", "unicode/utf8.acceptRanges", "internal/bytealg.MaxLen", "errors.errorType", "waybill/label.allowed"], apart := false, laid := [("unicode/utf8.acceptRanges", laid_unicode_utf8_acceptRanges), ("errors.errorType", laid_errors_errorType), ("waybill/label.allowed", laid_waybill_label_allowed), ("waybill/scan.words", laid_waybill_scan_words), ("unicode/utf8.first", laid_unicode_utf8_first)], narrowed := true }
def LinksPrintsUptoSaid : Prop := linksPrintsUptoRow.holds Tryz.pinned (OpenSpec.upto linksPrintsSpec)

/-- 'waybilllaw22.LinksGrants', WHERE WHAT IT READS IS OF BULK AT MOST 1048576: true; the input reads as it did. -/
def linksGrantsUptoRow : OpenClaim := { program := "ytkgpmnghdmcinaagreatdoor", sum := "947507fb865ef6b91bca34e734f9690702ef57f8babe711bb3a8729d17f1bb06", func := "waybill/waybilllaw22.LinksGrants", spec := "linksGrants", inPlace := ["internal/bytealg.IndexByteString", "math/bits.Add64", "internal/reflectlite.TypeOf", "internal/bytealg.IndexString", "internal/reflectlite.ValueOf", "(internal/reflectlite.Value).Type", "(internal/reflectlite.Value).IsNil", "(internal/reflectlite.Value).Elem", "(internal/reflectlite.Value).Set", "internal/bytealg.CountString", "internal/abi.NoEscape", "internal/bytealg.MakeNoZero", "slices.overlaps[int]"], unfollowed := true, recurses := true, named := ["waybill/scan.words", "unicode/utf8.first", "unicode/utf8.acceptRanges", "internal/bytealg.MaxLen", "errors.errorType", "waybill/label.allowed"], apart := false, laid := [("unicode/utf8.acceptRanges", laid_unicode_utf8_acceptRanges), ("errors.errorType", laid_errors_errorType), ("waybill/label.allowed", laid_waybill_label_allowed), ("waybill/scan.words", laid_waybill_scan_words), ("unicode/utf8.first", laid_unicode_utf8_first)], narrowed := true }
def LinksGrantsUptoSaid : Prop := linksGrantsUptoRow.holds Tryz.pinned (OpenSpec.upto linksGrantsSpec)

/-- 'waybilllaw22.LinksWrites', WHERE WHAT IT READS IS OF BULK AT MOST 1048576: true; the input reads as it did. -/
def linksWritesUptoRow : OpenClaim := { program := "ytkgpmnghdmcinaagreatdoor", sum := "947507fb865ef6b91bca34e734f9690702ef57f8babe711bb3a8729d17f1bb06", func := "waybill/waybilllaw22.LinksWrites", spec := "linksWrites", inPlace := ["internal/bytealg.IndexByteString", "math/bits.Add64", "internal/reflectlite.TypeOf", "internal/bytealg.IndexString", "internal/reflectlite.ValueOf", "(internal/reflectlite.Value).Type", "(internal/reflectlite.Value).IsNil", "(internal/reflectlite.Value).Elem", "(internal/reflectlite.Value).Set", "internal/bytealg.CountString", "internal/abi.NoEscape", "internal/bytealg.MakeNoZero", "slices.overlaps[int]", "internal/bytealg.abigen_runtime_cmpstring"], unfollowed := true, recurses := true, named := ["waybill/scan.words", "unicode/utf8.first", "unicode/utf8.acceptRanges", "internal/bytealg.MaxLen", "errors.errorType", "waybill/label.allowed"], apart := false, laid := [("unicode/utf8.acceptRanges", laid_unicode_utf8_acceptRanges), ("errors.errorType", laid_errors_errorType), ("waybill/label.allowed", laid_waybill_label_allowed), ("waybill/scan.words", laid_waybill_scan_words), ("unicode/utf8.first", laid_unicode_utf8_first)], narrowed := true }
def LinksWritesUptoSaid : Prop := linksWritesUptoRow.holds Tryz.pinned (OpenSpec.upto linksWritesSpec)

end Rows
end Go.Proofs.YtkgpmnghdmcinaaGreatDoor
