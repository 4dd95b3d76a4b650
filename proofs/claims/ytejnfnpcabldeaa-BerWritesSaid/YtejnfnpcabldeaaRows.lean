/-
  NARROWER THAN 'FOR EVERY INPUT', by the rows' own cells (each row's printed sentence says how): BerWrites: loops · BerFrames: loops · BerMakes: loops · BerGets: loops · BerBack: loops · BerCut: loops.
  DERIVED. THE GIVEN ROWS OF THIS SEAT. 9 by the template 'for every input the law returns true; each argument reads behind the call as it read before'; 0 by the template 'total and deterministic' (their statements: YtejnfnpcabldeaaTotals.lean).
  GIVEN WITH THE SEED: the statements are not yours to turn. If you find one false, say at which input.
  Laid BY PROGRAM, IN A SANDBOX (cutbox-rows.mjs): the forced cells as the released guide's own fill.sh prints them over the translation 82b7f5ad745dd709… (all of the seat's roots in one cut). By AI agents, Wed Nov 11 2026. No macro, syntax, notation, axiom, sorry.
-/
import Derived.Test.YtejnfnpcabldeaaChecked
import GoSem.Claim
import GoSem.ClaimJoined
import GoSem.ClaimMapViews
import Derived.JoinedTies
import Derived.KernelRfl
namespace Go.Proofs.Ytejnfnpcabldeaa
/- THE CELL 'sum', in the pinned program and in every row, IS THE sha256 OF THE DUMP (.gsa) THAT YtejnfnpcabldeaaProg.lean LOADS. Nothing in Lean hashes anything: it is a label: what it is worth is what the hold of that sum in a sandbox is worth. -/
noncomputable def Try.pinned : Pinned := { name := "ytejnfnpcabldeaa", sum := "82b7f5ad745dd709caae7dbfbfeaf72a6ef445a3dd0a0435d0f77418df922718", checked := Try.checked }
namespace Rows
def none {H : Type} : Left H := { results := [], args := [] }

/-- 'chancerylaw2.BerWrites': WHATEVER THE INPUT: true; the input reads as it did. -/
def berWritesSpec : ChangeSpec := { name := "berWrites", fn := fun _ => fun
  | [d] => { results := [.lit (.bool true)], args := [d] }
  | _ => none }
def berWritesRow : OpenClaim := { program := "ytejnfnpcabldeaa", sum := "82b7f5ad745dd709caae7dbfbfeaf72a6ef445a3dd0a0435d0f77418df922718", func := "chancery/chancerylaw2.BerWrites", spec := "berWrites", inPlace := ["internal/abi.NoEscape"], unfollowed := true, recurses := true, loops := true, apart := false }
def BerWritesSaid : Prop := berWritesRow.holds Try.pinned (OpenSpec.ofChange berWritesSpec)

/-- ITS FALSE NEIGHBOUR: 'it returns false'. Refute it at one input. -/
def berWritesWrong : ChangeSpec := { name := "berWrites", fn := fun _ => fun
  | [d] => { results := [.lit (.bool false)], args := [d] }
  | _ => none }
def BerWritesWrongFalsely : Prop := berWritesRow.holds Try.pinned (OpenSpec.ofChange berWritesWrong)

/-- 'chancerylaw2.BerFrames': WHATEVER THE INPUT: true; the input reads as it did. -/
def berFramesSpec : ChangeSpec := { name := "berFrames", fn := fun _ => fun
  | [d] => { results := [.lit (.bool true)], args := [d] }
  | _ => none }
def berFramesRow : OpenClaim := { program := "ytejnfnpcabldeaa", sum := "82b7f5ad745dd709caae7dbfbfeaf72a6ef445a3dd0a0435d0f77418df922718", func := "chancery/chancerylaw2.BerFrames", spec := "berFrames", inPlace := ["internal/abi.NoEscape"], unfollowed := true, recurses := true, loops := true, apart := false }
def BerFramesSaid : Prop := berFramesRow.holds Try.pinned (OpenSpec.ofChange berFramesSpec)

/-- ITS FALSE NEIGHBOUR: 'it returns false'. Refute it at one input. -/
def berFramesWrong : ChangeSpec := { name := "berFrames", fn := fun _ => fun
  | [d] => { results := [.lit (.bool false)], args := [d] }
  | _ => none }
def BerFramesWrongFalsely : Prop := berFramesRow.holds Try.pinned (OpenSpec.ofChange berFramesWrong)

/-- 'chancerylaw2.BerMakes': WHATEVER THE INPUT: true; the input reads as it did. -/
def berMakesSpec : ChangeSpec := { name := "berMakes", fn := fun _ => fun
  | [d1, d2, d3, d4, d5, d6] => { results := [.lit (.bool true)], args := [d1, d2, d3, d4, d5, d6] }
  | _ => none }
def berMakesRow : OpenClaim := { program := "ytejnfnpcabldeaa", sum := "82b7f5ad745dd709caae7dbfbfeaf72a6ef445a3dd0a0435d0f77418df922718", func := "chancery/chancerylaw2.BerMakes", spec := "berMakes", inPlace := ["internal/abi.NoEscape"], unfollowed := true, recurses := true, loops := true, apart := false }
def BerMakesSaid : Prop := berMakesRow.holds Try.pinned (OpenSpec.ofChange berMakesSpec)

/-- ITS FALSE NEIGHBOUR: 'it returns false'. Refute it at one input. -/
def berMakesWrong : ChangeSpec := { name := "berMakes", fn := fun _ => fun
  | [d1, d2, d3, d4, d5, d6] => { results := [.lit (.bool false)], args := [d1, d2, d3, d4, d5, d6] }
  | _ => none }
def BerMakesWrongFalsely : Prop := berMakesRow.holds Try.pinned (OpenSpec.ofChange berMakesWrong)

/-- 'chancerylaw2.BerGets': WHATEVER THE INPUT: true; the input reads as it did. -/
def berGetsSpec : ChangeSpec := { name := "berGets", fn := fun _ => fun
  | [d1, d2, d3] => { results := [.lit (.bool true)], args := [d1, d2, d3] }
  | _ => none }
def berGetsRow : OpenClaim := { program := "ytejnfnpcabldeaa", sum := "82b7f5ad745dd709caae7dbfbfeaf72a6ef445a3dd0a0435d0f77418df922718", func := "chancery/chancerylaw2.BerGets", spec := "berGets", inPlace := ["internal/abi.NoEscape"], unfollowed := true, recurses := true, loops := true, apart := false }
def BerGetsSaid : Prop := berGetsRow.holds Try.pinned (OpenSpec.ofChange berGetsSpec)

/-- ITS FALSE NEIGHBOUR: 'it returns false'. Refute it at one input. -/
def berGetsWrong : ChangeSpec := { name := "berGets", fn := fun _ => fun
  | [d1, d2, d3] => { results := [.lit (.bool false)], args := [d1, d2, d3] }
  | _ => none }
def BerGetsWrongFalsely : Prop := berGetsRow.holds Try.pinned (OpenSpec.ofChange berGetsWrong)

/-- 'chancerylaw2.BerReads': WHATEVER THE INPUT: true; the input reads as it did. -/
def berReadsSpec : ChangeSpec := { name := "berReads", fn := fun _ => fun
  | [d] => { results := [.lit (.bool true)], args := [d] }
  | _ => none }
def berReadsRow : OpenClaim := { program := "ytejnfnpcabldeaa", sum := "82b7f5ad745dd709caae7dbfbfeaf72a6ef445a3dd0a0435d0f77418df922718", func := "chancery/chancerylaw2.BerReads", spec := "berReads", inPlace := ["internal/abi.NoEscape"], unfollowed := true, recurses := true, apart := false }
def BerReadsSaid : Prop := berReadsRow.holds Try.pinned (OpenSpec.ofChange berReadsSpec)

/-- ITS FALSE NEIGHBOUR: 'it returns false'. Refute it at one input. -/
def berReadsWrong : ChangeSpec := { name := "berReads", fn := fun _ => fun
  | [d] => { results := [.lit (.bool false)], args := [d] }
  | _ => none }
def BerReadsWrongFalsely : Prop := berReadsRow.holds Try.pinned (OpenSpec.ofChange berReadsWrong)

/-- 'chancerylaw2.BerBack': WHATEVER THE INPUT: true; the input reads as it did. -/
def berBackSpec : ChangeSpec := { name := "berBack", fn := fun _ => fun
  | [d] => { results := [.lit (.bool true)], args := [d] }
  | _ => none }
def berBackRow : OpenClaim := { program := "ytejnfnpcabldeaa", sum := "82b7f5ad745dd709caae7dbfbfeaf72a6ef445a3dd0a0435d0f77418df922718", func := "chancery/chancerylaw2.BerBack", spec := "berBack", inPlace := ["internal/abi.NoEscape"], unfollowed := true, recurses := true, loops := true, apart := false }
def BerBackSaid : Prop := berBackRow.holds Try.pinned (OpenSpec.ofChange berBackSpec)

/-- ITS FALSE NEIGHBOUR: 'it returns false'. Refute it at one input. -/
def berBackWrong : ChangeSpec := { name := "berBack", fn := fun _ => fun
  | [d] => { results := [.lit (.bool false)], args := [d] }
  | _ => none }
def BerBackWrongFalsely : Prop := berBackRow.holds Try.pinned (OpenSpec.ofChange berBackWrong)

/-- 'chancerylaw2.BerOnce': WHATEVER THE INPUT: true; the input reads as it did. -/
def berOnceSpec : ChangeSpec := { name := "berOnce", fn := fun _ => fun
  | [d] => { results := [.lit (.bool true)], args := [d] }
  | _ => none }
def berOnceRow : OpenClaim := { program := "ytejnfnpcabldeaa", sum := "82b7f5ad745dd709caae7dbfbfeaf72a6ef445a3dd0a0435d0f77418df922718", func := "chancery/chancerylaw2.BerOnce", spec := "berOnce", inPlace := ["internal/abi.NoEscape"], unfollowed := true, recurses := true, apart := false }
def BerOnceSaid : Prop := berOnceRow.holds Try.pinned (OpenSpec.ofChange berOnceSpec)

/-- ITS FALSE NEIGHBOUR: 'it returns false'. Refute it at one input. -/
def berOnceWrong : ChangeSpec := { name := "berOnce", fn := fun _ => fun
  | [d] => { results := [.lit (.bool false)], args := [d] }
  | _ => none }
def BerOnceWrongFalsely : Prop := berOnceRow.holds Try.pinned (OpenSpec.ofChange berOnceWrong)

/-- 'chancerylaw2.BerCut': WHATEVER THE INPUT: true; the input reads as it did. -/
def berCutSpec : ChangeSpec := { name := "berCut", fn := fun _ => fun
  | [d1, d2, d3] => { results := [.lit (.bool true)], args := [d1, d2, d3] }
  | _ => none }
def berCutRow : OpenClaim := { program := "ytejnfnpcabldeaa", sum := "82b7f5ad745dd709caae7dbfbfeaf72a6ef445a3dd0a0435d0f77418df922718", func := "chancery/chancerylaw2.BerCut", spec := "berCut", inPlace := ["internal/abi.NoEscape"], unfollowed := true, recurses := true, loops := true, apart := false }
def BerCutSaid : Prop := berCutRow.holds Try.pinned (OpenSpec.ofChange berCutSpec)

/-- ITS FALSE NEIGHBOUR: 'it returns false'. Refute it at one input. -/
def berCutWrong : ChangeSpec := { name := "berCut", fn := fun _ => fun
  | [d1, d2, d3] => { results := [.lit (.bool false)], args := [d1, d2, d3] }
  | _ => none }
def BerCutWrongFalsely : Prop := berCutRow.holds Try.pinned (OpenSpec.ofChange berCutWrong)

/-- 'chancerylaw2.BerDeep': WHATEVER THE INPUT: true; the input reads as it did. -/
def berDeepSpec : ChangeSpec := { name := "berDeep", fn := fun _ => fun
  | [d] => { results := [.lit (.bool true)], args := [d] }
  | _ => none }
def berDeepRow : OpenClaim := { program := "ytejnfnpcabldeaa", sum := "82b7f5ad745dd709caae7dbfbfeaf72a6ef445a3dd0a0435d0f77418df922718", func := "chancery/chancerylaw2.BerDeep", spec := "berDeep", inPlace := ["internal/abi.NoEscape"], unfollowed := true, recurses := true, apart := false }
def BerDeepSaid : Prop := berDeepRow.holds Try.pinned (OpenSpec.ofChange berDeepSpec)

/-- ITS FALSE NEIGHBOUR: 'it returns false'. Refute it at one input. -/
def berDeepWrong : ChangeSpec := { name := "berDeep", fn := fun _ => fun
  | [d] => { results := [.lit (.bool false)], args := [d] }
  | _ => none }
def BerDeepWrongFalsely : Prop := berDeepRow.holds Try.pinned (OpenSpec.ofChange berDeepWrong)

/- THE SECOND FORM. 'bulk': how many values and letters a reading holds, each counted each time it is reached (what is shared counts as often as it is met; a slice's spare places count too). A statement '..UptoSaid' is the law's where the arguments, and the package variables that the reading takes, are together of bulk at most 1048576: NARROWER than '..Said'. Prove '..Said' where nothing that the law and all that it calls make is longer than what came in: it says more and counts as full. Else prove '..UptoSaid'. A law counts once. -/
mutual
def uptoBulk {H : Type} : DataW H → Nat
  | .lit (.string bytes) => bytes.length + 1
  | .lit _ => 1
  | .nil => 1
  | .ptr d => uptoBulk d + 1
  | .slice elems spare => uptoBulkAll elems + uptoBulkAll spare + 1
  | .agg parts => uptoBulkAll parts + 1
  | .iface _ d => uptoBulk d + 1
  | .map entries => uptoBulkEntries entries + 1
  | .held _ => 1
def uptoBulkAll {H : Type} : List (DataW H) → Nat
  | [] => 0
  | d :: r => uptoBulk d + uptoBulkAll r
def uptoBulkEntries {H : Type} : List (Lit × DataW H) → Nat
  | [] => 0
  | x :: r => uptoBulkEntry x + uptoBulkEntries r
def uptoBulkEntry {H : Type} : Lit × DataW H → Nat
  | (.string bytes, d) => bytes.length + uptoBulk d + 1
  | (_, d) => uptoBulk d + 1
 end
def uptoSmall : (H : Type) → List (DataW H) → Bool := fun _ ds => decide (uptoBulkAll ds ≤ 1048576)
def OpenSpec.upto (s : _root_.Go.ChangeSpec) : _root_.Go.OpenSpec := { _root_.Go.OpenSpec.ofChange s with cond := some uptoSmall }

/-- 'chancerylaw2.BerWrites', WHERE WHAT IT READS IS OF BULK AT MOST 1048576: true; the input reads as it did. -/
def berWritesUptoRow : OpenClaim := { program := "ytejnfnpcabldeaa", sum := "82b7f5ad745dd709caae7dbfbfeaf72a6ef445a3dd0a0435d0f77418df922718", func := "chancery/chancerylaw2.BerWrites", spec := "berWrites", inPlace := ["internal/abi.NoEscape"], unfollowed := true, recurses := true, loops := true, apart := false, narrowed := true }
def BerWritesUptoSaid : Prop := berWritesUptoRow.holds Try.pinned (OpenSpec.upto berWritesSpec)

/-- 'chancerylaw2.BerFrames', WHERE WHAT IT READS IS OF BULK AT MOST 1048576: true; the input reads as it did. -/
def berFramesUptoRow : OpenClaim := { program := "ytejnfnpcabldeaa", sum := "82b7f5ad745dd709caae7dbfbfeaf72a6ef445a3dd0a0435d0f77418df922718", func := "chancery/chancerylaw2.BerFrames", spec := "berFrames", inPlace := ["internal/abi.NoEscape"], unfollowed := true, recurses := true, loops := true, apart := false, narrowed := true }
def BerFramesUptoSaid : Prop := berFramesUptoRow.holds Try.pinned (OpenSpec.upto berFramesSpec)

/-- 'chancerylaw2.BerMakes', WHERE WHAT IT READS IS OF BULK AT MOST 1048576: true; the input reads as it did. -/
def berMakesUptoRow : OpenClaim := { program := "ytejnfnpcabldeaa", sum := "82b7f5ad745dd709caae7dbfbfeaf72a6ef445a3dd0a0435d0f77418df922718", func := "chancery/chancerylaw2.BerMakes", spec := "berMakes", inPlace := ["internal/abi.NoEscape"], unfollowed := true, recurses := true, loops := true, apart := false, narrowed := true }
def BerMakesUptoSaid : Prop := berMakesUptoRow.holds Try.pinned (OpenSpec.upto berMakesSpec)

/-- 'chancerylaw2.BerGets', WHERE WHAT IT READS IS OF BULK AT MOST 1048576: true; the input reads as it did. -/
def berGetsUptoRow : OpenClaim := { program := "ytejnfnpcabldeaa", sum := "82b7f5ad745dd709caae7dbfbfeaf72a6ef445a3dd0a0435d0f77418df922718", func := "chancery/chancerylaw2.BerGets", spec := "berGets", inPlace := ["internal/abi.NoEscape"], unfollowed := true, recurses := true, loops := true, apart := false, narrowed := true }
def BerGetsUptoSaid : Prop := berGetsUptoRow.holds Try.pinned (OpenSpec.upto berGetsSpec)

/-- 'chancerylaw2.BerReads', WHERE WHAT IT READS IS OF BULK AT MOST 1048576: true; the input reads as it did. -/
def berReadsUptoRow : OpenClaim := { program := "ytejnfnpcabldeaa", sum := "82b7f5ad745dd709caae7dbfbfeaf72a6ef445a3dd0a0435d0f77418df922718", func := "chancery/chancerylaw2.BerReads", spec := "berReads", inPlace := ["internal/abi.NoEscape"], unfollowed := true, recurses := true, apart := false, narrowed := true }
def BerReadsUptoSaid : Prop := berReadsUptoRow.holds Try.pinned (OpenSpec.upto berReadsSpec)

/-- 'chancerylaw2.BerBack', WHERE WHAT IT READS IS OF BULK AT MOST 1048576: true; the input reads as it did. -/
def berBackUptoRow : OpenClaim := { program := "ytejnfnpcabldeaa", sum := "82b7f5ad745dd709caae7dbfbfeaf72a6ef445a3dd0a0435d0f77418df922718", func := "chancery/chancerylaw2.BerBack", spec := "berBack", inPlace := ["internal/abi.NoEscape"], unfollowed := true, recurses := true, loops := true, apart := false, narrowed := true }
def BerBackUptoSaid : Prop := berBackUptoRow.holds Try.pinned (OpenSpec.upto berBackSpec)

/-- 'chancerylaw2.BerOnce', WHERE WHAT IT READS IS OF BULK AT MOST 1048576: true; the input reads as it did. -/
def berOnceUptoRow : OpenClaim := { program := "ytejnfnpcabldeaa", sum := "82b7f5ad745dd709caae7dbfbfeaf72a6ef445a3dd0a0435d0f77418df922718", func := "chancery/chancerylaw2.BerOnce", spec := "berOnce", inPlace := ["internal/abi.NoEscape"], unfollowed := true, recurses := true, apart := false, narrowed := true }
def BerOnceUptoSaid : Prop := berOnceUptoRow.holds Try.pinned (OpenSpec.upto berOnceSpec)

/-- 'chancerylaw2.BerCut', WHERE WHAT IT READS IS OF BULK AT MOST 1048576: true; the input reads as it did. -/
def berCutUptoRow : OpenClaim := { program := "ytejnfnpcabldeaa", sum := "82b7f5ad745dd709caae7dbfbfeaf72a6ef445a3dd0a0435d0f77418df922718", func := "chancery/chancerylaw2.BerCut", spec := "berCut", inPlace := ["internal/abi.NoEscape"], unfollowed := true, recurses := true, loops := true, apart := false, narrowed := true }
def BerCutUptoSaid : Prop := berCutUptoRow.holds Try.pinned (OpenSpec.upto berCutSpec)

/-- 'chancerylaw2.BerDeep', WHERE WHAT IT READS IS OF BULK AT MOST 1048576: true; the input reads as it did. -/
def berDeepUptoRow : OpenClaim := { program := "ytejnfnpcabldeaa", sum := "82b7f5ad745dd709caae7dbfbfeaf72a6ef445a3dd0a0435d0f77418df922718", func := "chancery/chancerylaw2.BerDeep", spec := "berDeep", inPlace := ["internal/abi.NoEscape"], unfollowed := true, recurses := true, apart := false, narrowed := true }
def BerDeepUptoSaid : Prop := berDeepUptoRow.holds Try.pinned (OpenSpec.upto berDeepSpec)

end Rows
end Go.Proofs.Ytejnfnpcabldeaa
