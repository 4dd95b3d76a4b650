/-
  NARROWER THAN 'FOR EVERY INPUT', by the rows' own cells (each row's printed sentence says how): OctetOrder: laid · OctetSums: laid · OctetNumbers: laid · OctetHexes: laid · OctetGo: laid · OctetRunes: laid · OctetBack: laid.
  DERIVED. THE GIVEN ROWS OF THIS SEAT. 7 by the template 'for every input the law returns true; each argument reads behind the call as it read before'; 0 by the template 'total and deterministic' (their statements: YteajgkjiappkiaaDoorTotals.lean).
  GIVEN WITH THE SEED: the statements are not yours to turn. If you find one false, say at which input.
  Laid BY PROGRAM, IN A SANDBOX (cutbox-rows.mjs): the forced cells as the released guide's own fill.sh prints them over the translation 7b2219986c26e50c… (all of the seat's roots in one cut). By AI agents, Wed Nov 11 2026. No macro, syntax, notation, axiom, sorry.
-/
import Derived.Test.YteajgkjiappkiaaDoorChecked
import GoSem.PinnedTables
import GoSem.Claim
import GoSem.ClaimJoined
import GoSem.ClaimMapViews
import Derived.JoinedTies
import Derived.KernelRfl
namespace Go.Proofs.YteajgkjiappkiaaDoor
/- THE CELL 'sum', in the pinned program and in every row, IS THE sha256 OF THE DUMP (.gsa) THAT YteajgkjiappkiaaDoorProg.lean LOADS. Nothing in Lean hashes anything: it is a label: what it is worth is what the hold of that sum in a sandbox is worth. -/
noncomputable def Tryd.pinned : Pinned := { name := "yteajgkjiappkiaadoor", sum := "7b2219986c26e50c5f33e71ab7c96679297d4a8d0f5f6f6cd56a4be224777997", checked := Tryd.checked }
namespace Rows
def none {H : Type} : Left H := { results := [], args := [] }

/- WHAT THE LISTED PACKAGE-LEVEL VARIABLES READ AS WHEN THE CALL BEGINS. Each datum BY PROGRAM (the guide's laid-datum.mjs) off the statement by which the dump's own 'gosem.cut.vars' lays the variable. In a bare row this is a premise. The card (YteajgkjiappkiaaDoorCards.lean) ties it to the program's text. -/
def laid_unicode_utf8_acceptRanges {H : Type} : DataW H := .agg [.agg [.lit (.int .u8 128), .lit (.int .u8 191)], .agg [.lit (.int .u8 160), .lit (.int .u8 191)], .agg [.lit (.int .u8 128), .lit (.int .u8 159)], .agg [.lit (.int .u8 144), .lit (.int .u8 191)], .agg [.lit (.int .u8 128), .lit (.int .u8 143)], .agg [.lit (.int .u8 0), .lit (.int .u8 0)], .agg [.lit (.int .u8 0), .lit (.int .u8 0)], .agg [.lit (.int .u8 0), .lit (.int .u8 0)], .agg [.lit (.int .u8 0), .lit (.int .u8 0)], .agg [.lit (.int .u8 0), .lit (.int .u8 0)], .agg [.lit (.int .u8 0), .lit (.int .u8 0)], .agg [.lit (.int .u8 0), .lit (.int .u8 0)], .agg [.lit (.int .u8 0), .lit (.int .u8 0)], .agg [.lit (.int .u8 0), .lit (.int .u8 0)], .agg [.lit (.int .u8 0), .lit (.int .u8 0)], .agg [.lit (.int .u8 0), .lit (.int .u8 0)]]
/-- One of Go's own tables, pinned by name: the form's constant. -/
def laid_unicode_utf8_first : DataW Unit := Go.Pinned.utf8First

/-- 'chancerylaw1.OctetOrder': WHATEVER THE INPUT: true; the input reads as it did. -/
def octetOrderSpec : ChangeSpec := { name := "octetOrder", fn := fun _ => fun
  | [d1, d2, d3] => { results := [.lit (.bool true)], args := [d1, d2, d3] }
  | _ => none }
def octetOrderRow : OpenClaim := { program := "yteajgkjiappkiaadoor", sum := "7b2219986c26e50c5f33e71ab7c96679297d4a8d0f5f6f6cd56a4be224777997", func := "chancery/chancerylaw1.OctetOrder", spec := "octetOrder", inPlace := ["internal/bytealg.abigen_runtime_cmpstring"], named := ["unicode/utf8.first", "unicode/utf8.acceptRanges"], apart := false, laid := [("unicode/utf8.acceptRanges", laid_unicode_utf8_acceptRanges), ("unicode/utf8.first", laid_unicode_utf8_first)] }
def OctetOrderSaid : Prop := octetOrderRow.holds Tryd.pinned (OpenSpec.ofChange octetOrderSpec)

/-- ITS FALSE NEIGHBOUR: 'it returns false'. Refute it at one input. -/
def octetOrderWrong : ChangeSpec := { name := "octetOrder", fn := fun _ => fun
  | [d1, d2, d3] => { results := [.lit (.bool false)], args := [d1, d2, d3] }
  | _ => none }
def OctetOrderWrongFalsely : Prop := octetOrderRow.holds Tryd.pinned (OpenSpec.ofChange octetOrderWrong)

/-- 'chancerylaw1.OctetSums': WHATEVER THE INPUT: true; the input reads as it did. -/
def octetSumsSpec : ChangeSpec := { name := "octetSums", fn := fun _ => fun
  | [d1, d2] => { results := [.lit (.bool true)], args := [d1, d2] }
  | _ => none }
def octetSumsRow : OpenClaim := { program := "yteajgkjiappkiaadoor", sum := "7b2219986c26e50c5f33e71ab7c96679297d4a8d0f5f6f6cd56a4be224777997", func := "chancery/chancerylaw1.OctetSums", spec := "octetSums", named := ["unicode/utf8.first", "unicode/utf8.acceptRanges"], apart := false, laid := [("unicode/utf8.acceptRanges", laid_unicode_utf8_acceptRanges), ("unicode/utf8.first", laid_unicode_utf8_first)] }
def OctetSumsSaid : Prop := octetSumsRow.holds Tryd.pinned (OpenSpec.ofChange octetSumsSpec)

/-- ITS FALSE NEIGHBOUR: 'it returns false'. Refute it at one input. -/
def octetSumsWrong : ChangeSpec := { name := "octetSums", fn := fun _ => fun
  | [d1, d2] => { results := [.lit (.bool false)], args := [d1, d2] }
  | _ => none }
def OctetSumsWrongFalsely : Prop := octetSumsRow.holds Tryd.pinned (OpenSpec.ofChange octetSumsWrong)

/-- 'chancerylaw1.OctetNumbers': WHATEVER THE INPUT: true; the input reads as it did. -/
def octetNumbersSpec : ChangeSpec := { name := "octetNumbers", fn := fun _ => fun
  | [d1, d2, d3] => { results := [.lit (.bool true)], args := [d1, d2, d3] }
  | _ => none }
def octetNumbersRow : OpenClaim := { program := "yteajgkjiappkiaadoor", sum := "7b2219986c26e50c5f33e71ab7c96679297d4a8d0f5f6f6cd56a4be224777997", func := "chancery/chancerylaw1.OctetNumbers", spec := "octetNumbers", named := ["unicode/utf8.first", "unicode/utf8.acceptRanges"], apart := false, laid := [("unicode/utf8.acceptRanges", laid_unicode_utf8_acceptRanges), ("unicode/utf8.first", laid_unicode_utf8_first)] }
def OctetNumbersSaid : Prop := octetNumbersRow.holds Tryd.pinned (OpenSpec.ofChange octetNumbersSpec)

/-- ITS FALSE NEIGHBOUR: 'it returns false'. Refute it at one input. -/
def octetNumbersWrong : ChangeSpec := { name := "octetNumbers", fn := fun _ => fun
  | [d1, d2, d3] => { results := [.lit (.bool false)], args := [d1, d2, d3] }
  | _ => none }
def OctetNumbersWrongFalsely : Prop := octetNumbersRow.holds Tryd.pinned (OpenSpec.ofChange octetNumbersWrong)

/-- 'chancerylaw1.OctetHexes': WHATEVER THE INPUT: true; the input reads as it did. -/
def octetHexesSpec : ChangeSpec := { name := "octetHexes", fn := fun _ => fun
  | [d1, d2] => { results := [.lit (.bool true)], args := [d1, d2] }
  | _ => none }
def octetHexesRow : OpenClaim := { program := "yteajgkjiappkiaadoor", sum := "7b2219986c26e50c5f33e71ab7c96679297d4a8d0f5f6f6cd56a4be224777997", func := "chancery/chancerylaw1.OctetHexes", spec := "octetHexes", inPlace := ["internal/bytealg.abigen_runtime_cmpstring"], named := ["unicode/utf8.first", "unicode/utf8.acceptRanges"], apart := false, laid := [("unicode/utf8.acceptRanges", laid_unicode_utf8_acceptRanges), ("unicode/utf8.first", laid_unicode_utf8_first)] }
def OctetHexesSaid : Prop := octetHexesRow.holds Tryd.pinned (OpenSpec.ofChange octetHexesSpec)

/-- ITS FALSE NEIGHBOUR: 'it returns false'. Refute it at one input. -/
def octetHexesWrong : ChangeSpec := { name := "octetHexes", fn := fun _ => fun
  | [d1, d2] => { results := [.lit (.bool false)], args := [d1, d2] }
  | _ => none }
def OctetHexesWrongFalsely : Prop := octetHexesRow.holds Tryd.pinned (OpenSpec.ofChange octetHexesWrong)

/-- 'chancerylaw1.OctetGo': WHATEVER THE INPUT: true; the input reads as it did. -/
def octetGoSpec : ChangeSpec := { name := "octetGo", fn := fun _ => fun
  | [d] => { results := [.lit (.bool true)], args := [d] }
  | _ => none }
def octetGoRow : OpenClaim := { program := "yteajgkjiappkiaadoor", sum := "7b2219986c26e50c5f33e71ab7c96679297d4a8d0f5f6f6cd56a4be224777997", func := "chancery/chancerylaw1.OctetGo", spec := "octetGo", named := ["unicode/utf8.first", "unicode/utf8.acceptRanges"], apart := false, laid := [("unicode/utf8.acceptRanges", laid_unicode_utf8_acceptRanges), ("unicode/utf8.first", laid_unicode_utf8_first)] }
def OctetGoSaid : Prop := octetGoRow.holds Tryd.pinned (OpenSpec.ofChange octetGoSpec)

/-- ITS FALSE NEIGHBOUR: 'it returns false'. Refute it at one input. -/
def octetGoWrong : ChangeSpec := { name := "octetGo", fn := fun _ => fun
  | [d] => { results := [.lit (.bool false)], args := [d] }
  | _ => none }
def OctetGoWrongFalsely : Prop := octetGoRow.holds Tryd.pinned (OpenSpec.ofChange octetGoWrong)

/-- 'chancerylaw1.OctetRunes': WHATEVER THE INPUT: true; the input reads as it did. -/
def octetRunesSpec : ChangeSpec := { name := "octetRunes", fn := fun _ => fun
  | [d1, d2, d3] => { results := [.lit (.bool true)], args := [d1, d2, d3] }
  | _ => none }
def octetRunesRow : OpenClaim := { program := "yteajgkjiappkiaadoor", sum := "7b2219986c26e50c5f33e71ab7c96679297d4a8d0f5f6f6cd56a4be224777997", func := "chancery/chancerylaw1.OctetRunes", spec := "octetRunes", named := ["unicode/utf8.first", "unicode/utf8.acceptRanges"], apart := false, laid := [("unicode/utf8.acceptRanges", laid_unicode_utf8_acceptRanges), ("unicode/utf8.first", laid_unicode_utf8_first)] }
def OctetRunesSaid : Prop := octetRunesRow.holds Tryd.pinned (OpenSpec.ofChange octetRunesSpec)

/-- ITS FALSE NEIGHBOUR: 'it returns false'. Refute it at one input. -/
def octetRunesWrong : ChangeSpec := { name := "octetRunes", fn := fun _ => fun
  | [d1, d2, d3] => { results := [.lit (.bool false)], args := [d1, d2, d3] }
  | _ => none }
def OctetRunesWrongFalsely : Prop := octetRunesRow.holds Tryd.pinned (OpenSpec.ofChange octetRunesWrong)

/-- 'chancerylaw1.OctetBack': WHATEVER THE INPUT: true; the input reads as it did. -/
def octetBackSpec : ChangeSpec := { name := "octetBack", fn := fun _ => fun
  | [d1, d2, d3, d4] => { results := [.lit (.bool true)], args := [d1, d2, d3, d4] }
  | _ => none }
def octetBackRow : OpenClaim := { program := "yteajgkjiappkiaadoor", sum := "7b2219986c26e50c5f33e71ab7c96679297d4a8d0f5f6f6cd56a4be224777997", func := "chancery/chancerylaw1.OctetBack", spec := "octetBack", named := ["unicode/utf8.first", "unicode/utf8.acceptRanges"], apart := false, laid := [("unicode/utf8.acceptRanges", laid_unicode_utf8_acceptRanges), ("unicode/utf8.first", laid_unicode_utf8_first)] }
def OctetBackSaid : Prop := octetBackRow.holds Tryd.pinned (OpenSpec.ofChange octetBackSpec)

/-- ITS FALSE NEIGHBOUR: 'it returns false'. Refute it at one input. -/
def octetBackWrong : ChangeSpec := { name := "octetBack", fn := fun _ => fun
  | [d1, d2, d3, d4] => { results := [.lit (.bool false)], args := [d1, d2, d3, d4] }
  | _ => none }
def OctetBackWrongFalsely : Prop := octetBackRow.holds Tryd.pinned (OpenSpec.ofChange octetBackWrong)

/- THE SECOND FORM. 'bulk': how many values and letters a reading holds, each counted each time it is reached (what is shared counts as often as it is met; a slice's spare places count too). A statement '..UptoSaid' is the law's where the arguments, and the package variables that the reading takes, are together of bulk at most 1048576: NARROWER than '..Said'. Prove '..Said' where nothing that the law and all that it calls make is longer than what came in: it says more and counts as full. Else prove '..UptoSaid'. A law counts once. -/
mutual
def uptoBulk {H : Type} : DataW H → Nat
  | .lit (.string bytes) => bytes.length + 1
  | .lit _ => 1
  | .nil => 1
  | .ptr d => uptoBulk d + 1
  | .slice elems spare => uptoBulkAll elems + uptoBulkAll spare + 1
  | .agg parts => uptoBulkAll parts + 1
  | .iface _ d => uptoBulk d + 1
  | .map entries => uptoBulkEntries entries + 1
  | .held _ => 1
def uptoBulkAll {H : Type} : List (DataW H) → Nat
  | [] => 0
  | d :: r => uptoBulk d + uptoBulkAll r
def uptoBulkEntries {H : Type} : List (Lit × DataW H) → Nat
  | [] => 0
  | x :: r => uptoBulkEntry x + uptoBulkEntries r
def uptoBulkEntry {H : Type} : Lit × DataW H → Nat
  | (.string bytes, d) => bytes.length + uptoBulk d + 1
  | (_, d) => uptoBulk d + 1
 end
def uptoSmall : (H : Type) → List (DataW H) → Bool := fun _ ds => decide (uptoBulkAll ds ≤ 1048576)
def OpenSpec.upto (s : _root_.Go.ChangeSpec) : _root_.Go.OpenSpec := { _root_.Go.OpenSpec.ofChange s with cond := some uptoSmall }

/-- 'chancerylaw1.OctetOrder', WHERE WHAT IT READS IS OF BULK AT MOST 1048576: true; the input reads as it did. -/
def octetOrderUptoRow : OpenClaim := { program := "yteajgkjiappkiaadoor", sum := "7b2219986c26e50c5f33e71ab7c96679297d4a8d0f5f6f6cd56a4be224777997", func := "chancery/chancerylaw1.OctetOrder", spec := "octetOrder", inPlace := ["internal/bytealg.abigen_runtime_cmpstring"], named := ["unicode/utf8.first", "unicode/utf8.acceptRanges"], apart := false, laid := [("unicode/utf8.acceptRanges", laid_unicode_utf8_acceptRanges), ("unicode/utf8.first", laid_unicode_utf8_first)], narrowed := true }
def OctetOrderUptoSaid : Prop := octetOrderUptoRow.holds Tryd.pinned (OpenSpec.upto octetOrderSpec)

/-- 'chancerylaw1.OctetSums', WHERE WHAT IT READS IS OF BULK AT MOST 1048576: true; the input reads as it did. -/
def octetSumsUptoRow : OpenClaim := { program := "yteajgkjiappkiaadoor", sum := "7b2219986c26e50c5f33e71ab7c96679297d4a8d0f5f6f6cd56a4be224777997", func := "chancery/chancerylaw1.OctetSums", spec := "octetSums", named := ["unicode/utf8.first", "unicode/utf8.acceptRanges"], apart := false, laid := [("unicode/utf8.acceptRanges", laid_unicode_utf8_acceptRanges), ("unicode/utf8.first", laid_unicode_utf8_first)], narrowed := true }
def OctetSumsUptoSaid : Prop := octetSumsUptoRow.holds Tryd.pinned (OpenSpec.upto octetSumsSpec)

/-- 'chancerylaw1.OctetNumbers', WHERE WHAT IT READS IS OF BULK AT MOST 1048576: true; the input reads as it did. -/
def octetNumbersUptoRow : OpenClaim := { program := "yteajgkjiappkiaadoor", sum := "7b2219986c26e50c5f33e71ab7c96679297d4a8d0f5f6f6cd56a4be224777997", func := "chancery/chancerylaw1.OctetNumbers", spec := "octetNumbers", named := ["unicode/utf8.first", "unicode/utf8.acceptRanges"], apart := false, laid := [("unicode/utf8.acceptRanges", laid_unicode_utf8_acceptRanges), ("unicode/utf8.first", laid_unicode_utf8_first)], narrowed := true }
def OctetNumbersUptoSaid : Prop := octetNumbersUptoRow.holds Tryd.pinned (OpenSpec.upto octetNumbersSpec)

/-- 'chancerylaw1.OctetHexes', WHERE WHAT IT READS IS OF BULK AT MOST 1048576: true; the input reads as it did. -/
def octetHexesUptoRow : OpenClaim := { program := "yteajgkjiappkiaadoor", sum := "7b2219986c26e50c5f33e71ab7c96679297d4a8d0f5f6f6cd56a4be224777997", func := "chancery/chancerylaw1.OctetHexes", spec := "octetHexes", inPlace := ["internal/bytealg.abigen_runtime_cmpstring"], named := ["unicode/utf8.first", "unicode/utf8.acceptRanges"], apart := false, laid := [("unicode/utf8.acceptRanges", laid_unicode_utf8_acceptRanges), ("unicode/utf8.first", laid_unicode_utf8_first)], narrowed := true }
def OctetHexesUptoSaid : Prop := octetHexesUptoRow.holds Tryd.pinned (OpenSpec.upto octetHexesSpec)

/-- 'chancerylaw1.OctetGo', WHERE WHAT IT READS IS OF BULK AT MOST 1048576: true; the input reads as it did. -/
def octetGoUptoRow : OpenClaim := { program := "yteajgkjiappkiaadoor", sum := "7b2219986c26e50c5f33e71ab7c96679297d4a8d0f5f6f6cd56a4be224777997", func := "chancery/chancerylaw1.OctetGo", spec := "octetGo", named := ["unicode/utf8.first", "unicode/utf8.acceptRanges"], apart := false, laid := [("unicode/utf8.acceptRanges", laid_unicode_utf8_acceptRanges), ("unicode/utf8.first", laid_unicode_utf8_first)], narrowed := true }
def OctetGoUptoSaid : Prop := octetGoUptoRow.holds Tryd.pinned (OpenSpec.upto octetGoSpec)

/-- 'chancerylaw1.OctetRunes', WHERE WHAT IT READS IS OF BULK AT MOST 1048576: true; the input reads as it did. -/
def octetRunesUptoRow : OpenClaim := { program := "yteajgkjiappkiaadoor", sum := "7b2219986c26e50c5f33e71ab7c96679297d4a8d0f5f6f6cd56a4be224777997", func := "chancery/chancerylaw1.OctetRunes", spec := "octetRunes", named := ["unicode/utf8.first", "unicode/utf8.acceptRanges"], apart := false, laid := [("unicode/utf8.acceptRanges", laid_unicode_utf8_acceptRanges), ("unicode/utf8.first", laid_unicode_utf8_first)], narrowed := true }
def OctetRunesUptoSaid : Prop := octetRunesUptoRow.holds Tryd.pinned (OpenSpec.upto octetRunesSpec)

/-- 'chancerylaw1.OctetBack', WHERE WHAT IT READS IS OF BULK AT MOST 1048576: true; the input reads as it did. -/
def octetBackUptoRow : OpenClaim := { program := "yteajgkjiappkiaadoor", sum := "7b2219986c26e50c5f33e71ab7c96679297d4a8d0f5f6f6cd56a4be224777997", func := "chancery/chancerylaw1.OctetBack", spec := "octetBack", named := ["unicode/utf8.first", "unicode/utf8.acceptRanges"], apart := false, laid := [("unicode/utf8.acceptRanges", laid_unicode_utf8_acceptRanges), ("unicode/utf8.first", laid_unicode_utf8_first)], narrowed := true }
def OctetBackUptoSaid : Prop := octetBackUptoRow.holds Tryd.pinned (OpenSpec.upto octetBackSpec)

end Rows
end Go.Proofs.YteajgkjiappkiaaDoor
